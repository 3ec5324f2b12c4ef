/- The base of the laws, part 19: contracts and plain lemmas, no statement. -/
import Derived.Test.YtbkkfkbgcklkgaaGreatBase18
import Derived.Deep.RegionHeld3
import Derived.Deep.RegionHeld
/- A device's Reset; a new device. -/
namespace Go.Proofs.YtbkkfkbgcklkgaaGreat
open Go.RowKit
set_option maxHeartbeats 10000000
set_option maxRecDepth 100000

theorem DevAt.newCell {B : Nat} {w w' : World} {a mb c c' d v g : Nat} {m : DevM} {κ : Nat → Option Nat} {val : Value} (h : DevAt B w a mb m κ c d v g val) {M' : MemM} {C' : CellM} (hm : MemIs w' mb M' (Of κ 5)) (hk : Keep (Of κ 5) w w') (hc : CellIs w' c' mb C') (hn : w.heap.size ≤ c' ∧ c' < w'.heap.size) :
    DevAt B (w'.setCell ⟨a, 7, none⟩ (.pointer (some ⟨c', 0, none⟩))) a mb { m with m := M', cell := C' } (paint κ 6 w w') c' d v g val := by
  have hz : (w'.setCell ⟨a, 7, none⟩ (.pointer (some ⟨c', 0, none⟩))).heap.size = w'.heap.size := by simp [World.setCell]
  have hk2 : Keep (fun x => x = a) w' (w'.setCell ⟨a, 7, none⟩ (.pointer (some ⟨c', 0, none⟩))) := (Keep.refl (fun x => x = a) w').setCell (p := ⟨a, 7, none⟩) (fun _ => rfl) _
  have hk3 : Keep (fun x => Of κ 5 x ∨ x = a) w (w'.setCell ⟨a, 7, none⟩ (.pointer (some ⟨c', 0, none⟩))) := (hk.mono (fun _ _ h => .inl h)).andThen hk2 (fun _ _ e => .inr e)
  have hS : ∀ t x, t ≠ 5 → t ≠ 0 → Of κ t x → ¬ (Of κ 5 x ∨ x = a) := fun t x h5 h0 hx e => e.elim (hx.ne h5) (fun e => (hx.ne h0) (e ▸ h.ka))
  have hal := (h.inF h.ka).2
  have hb : Blk w' a 109 (devCells m mb c d v g val) := h.blk.keep hk (h.ka.ne (by decide))
  exact {
    blk := by simpa [devCells] using hb.set_ 7 (.pointer (some ⟨c', 0, none⟩))
    dog := Blk.keep h.dog hk3 (hS 1 _ (by decide) (by decide) h.kd)
    valve := h.valve.keep hk3 (fun x => hS 2 x (by decide) (by decide)) (fun x hx => paint_old hx h.lo)
    log := h.log.keep hk3 (fun x => hS 3 x (by decide) (by decide)) (fun x hx => paint_old hx h.lo)
    value := ownsRow_keep h.value hk3 (fun x hx => hS 4 x (by decide) (by decide) (h.kx x hx))
    mem := hm.keep hk2 (fun x hx e => (hx.ne (show 5 ≠ 0 by decide)) (e ▸ h.ka)) (fun x hx => paint_old hx h.lo)
    cell := Blk.keep hc hk2 (by omega)
    ka := paint_old h.ka h.lo
    kd := paint_old h.kd h.lo
    kx := fun x hx => paint_old (h.kx x hx) h.lo
    kc := paint_new hn.1 hn.2
    lo := by rw [hz]; exact paint_lo h.lo h.Ble hk.size }
theorem devReset_any (B a mb : Nat) (m : DevM) (F : Nat → Prop) (n : Int) (w : World) (hI : DevIs B w a mb m F) (hi : m.Inv) (hn : n < 9223372036854775808) :
    Calls Tryz.prog 31 #[.pointer (some ⟨a, 0, none⟩), .int .i64 n] w fun e w' => e = .returned (.int .i64 (m.reset n).2) ∧ DevTo B w a mb (m.reset n).1 F w' := by
  by_cases h0 : n < 0
  · have e1 : m.reset n = (m, 2) := by unfold DevM.reset; rw [if_pos h0]
    rw [e1]
    go_enter Tryz.func31, Tryz.ntmps31
    go_wp2_with fail
    go_ret
    exact ⟨rfl, DevTo.refl hI⟩
  have hfr := devFreshTo_any B a mb m F w hI hi.plaw
  obtain ⟨mm, Hmm⟩ : ∃ mm, Hid (mm = if 0 < n then (m.m.on.arm (n - 1)).1 else m.m.on) := ⟨_, Lib.hid rfl⟩
  have hmo : mm.off = false := by
    rw [Hmm.out]
    split
    · unfold MemM.arm; split <;> rfl
    · rfl
  obtain ⟨q, Hq⟩ : ∃ q, Hid (q = m.reset n) := ⟨_, Lib.hid rfl⟩
  have hq : q = match openM mm m.max with
    | (m', some c, _) => ({ (m.life 1) with m := m', cell := c }, 0)
    | (m', none, e) => ({ (m.life 6) with m := m' }, e) := by rw [Hq.out, Hmm.out]; unfold DevM.reset; rw [if_neg h0]; rfl
  rw [← Hq.out]
  have Hqq := Lib.hid hq
  clear Hq hq
  -- behind the memory's On and Arm: how Open goes on
  have tail : ∀ (W : World), DevTo B w a mb { (m.life 1) with m := mm } F W → ∃ κ c d v g val, DevAt B W a mb { (m.life 1) with m := mm } κ c d v g val ∧ (∀ x, κ x ≠ none → grow F w W x) ∧
      Calls Tryz.prog 44 #[.pointer (some ⟨mb, 0, none⟩), .int .u32 m.max] W.drew fun e w' => MemGo W.drew mb (openM mm m.max).1 (Of κ 5) w' ∧
        match (openM mm m.max).2.1 with
        | some k => ∃ c, e = .returned (.tuple #[.pointer (some ⟨c, 0, none⟩), .int .i64 0]) ∧ (openM mm m.max).2.2 = 0 ∧ CellIs w' c mb k ∧ W.drew.heap.size ≤ c ∧ c < w'.heap.size
        | none => e = .returned (.tuple #[.pointer none, .int .i64 (openM mm m.max).2.2]) := by
    intro W t
    obtain ⟨⟨κ, c, d, v, g, val, h, hF⟩, _⟩ := t.is_
    exact ⟨κ, c, d, v, g, val, h, hF, cellOpen_any mb mm (Of κ 5) m.max W.drew (h.mem.drewN 1) hmo (fun x hx => (h.inF hx).2) hi.mx⟩
  have hone := fun h => openM_none (m := mm) (mx := m.max) h
  have hmx := hi.mx
  by_cases hp : 0 < n
  · have hmm : mm = (m.m.on.arm (n - 1)).1 := by rw [Hmm.out, if_pos hp]
    have hw1 : IntKind.i64.wrap (n - 1) = n - 1 := IntWalk.i64_in _ (by omega)
    clear Hmm hmo
    subst hmm
    generalize openM (m.m.on.arm (n - 1)).1 m.max = r at *
    obtain ⟨m', ko, er⟩ := r
    cases ko with
    | none =>
      have hne := hone rfl
      have ge : (er != 0) = true := by simpa using hne
      clear hone
      go_enter Tryz.func31, Tryz.ntmps31
      go_wp2_with fail
      refine hfr.mono ?_
      rintro e W1 ⟨rfl, t1⟩
      obtain ⟨⟨κ1, c1, d1, v1, g1, val1, h1, hF1⟩, hlo1⟩ := t1.is_
      have hc := h1.blk.cell
      unfold devCells at hc
      go_wp2_with fail
      refine (memOn_any mb _ _ W1 h1.mem).mono ?_
      rintro e W2 ⟨rfl, tm2⟩
      have t2 := DevTo.trans hI t1 (h1.toMem t1.is_ hF1 tm2)
      clear hc
      obtain ⟨⟨κ2, c2, d2, v2, g2, val2, h2, hF2⟩, hlo2⟩ := t2.is_
      have hc := h2.blk.cell
      unfold devCells at hc
      go_wp2_with fail
      refine (memArm_any mb _ _ (n - 1) W2 h2.mem (by omega)).mono ?_
      rintro e W3 ⟨rfl, tm3⟩
      have t3 : DevTo B w a mb { (m.life 1) with m := (m.m.on.arm (n - 1)).1 } F W3 := DevTo.trans hI t2 (h2.toMem t2.is_ hF2 tm3)
      clear hc
      obtain ⟨κ3, c3, d3, v3, g3, val3, h3, hF3, hop⟩ := tail W3 t3
      have hb3 := h3.blk.drew
      have hc := h3.blk.cell
      unfold devCells at hc
      have hmem := h3.mem
      clear tail
      try simp only at hop
      go_wp2_with fail
      go_region_held3 (fun w' => w'.cell? ⟨a, 5, none⟩ = some (.pointer (some ⟨mb, 0, none⟩)) ∧ w'.cell? ⟨a, 6, none⟩ = some (.int .u32 m.max)) (exact ⟨(hb3.cell 5).trans rfl, (hb3.cell 6).trans rfl⟩) (first
        | (go_at_call 44; refine hop.mono ?_; rintro e W4 ⟨tm4, rfl⟩; replace hb3 := hb3.keep tm4.keep (h3.ka.ne (by decide))))
      all_goals
        have h4 := h3.drew.toCell t3.drew.is_ hF3 tm4.is_ (Blk.keep h3.drew.cell tm4.keep (h3.kc.ne (by decide))) (tm4.keep.mono (fun _ _ h => .inl h))
        have T := DevTo.trans hI t3.drew h4
        have hq := Hqq.out
        try simp only at hq
        subst hq
        clear hc
        go_wp2_with fail
        refine (devDown_any B a mb _ _ W4 T.is_ hi.plaw).mono ?_
        rintro e W5 ⟨rfl, t5⟩
        have T5 := DevTo.trans hI T t5
        go_wp2_with fail
        go_ret
        exact ⟨rfl, T5⟩
    | some ko =>
      clear hone
      go_enter Tryz.func31, Tryz.ntmps31
      go_wp2_with fail
      refine hfr.mono ?_
      rintro e W1 ⟨rfl, t1⟩
      obtain ⟨⟨κ1, c1, d1, v1, g1, val1, h1, hF1⟩, hlo1⟩ := t1.is_
      have hc := h1.blk.cell
      unfold devCells at hc
      go_wp2_with fail
      refine (memOn_any mb _ _ W1 h1.mem).mono ?_
      rintro e W2 ⟨rfl, tm2⟩
      have t2 := DevTo.trans hI t1 (h1.toMem t1.is_ hF1 tm2)
      clear hc
      obtain ⟨⟨κ2, c2, d2, v2, g2, val2, h2, hF2⟩, hlo2⟩ := t2.is_
      have hc := h2.blk.cell
      unfold devCells at hc
      go_wp2_with fail
      refine (memArm_any mb _ _ (n - 1) W2 h2.mem (by omega)).mono ?_
      rintro e W3 ⟨rfl, tm3⟩
      have t3 : DevTo B w a mb { (m.life 1) with m := (m.m.on.arm (n - 1)).1 } F W3 := DevTo.trans hI t2 (h2.toMem t2.is_ hF2 tm3)
      clear hc
      obtain ⟨κ3, c3, d3, v3, g3, val3, h3, hF3, hop⟩ := tail W3 t3
      have hb3 := h3.blk.drew
      have hc := h3.blk.cell
      unfold devCells at hc
      have hmem := h3.mem
      clear tail
      try simp only at hop
      go_wp2_with fail
      go_region_held3 (fun w' => w'.cell? ⟨a, 5, none⟩ = some (.pointer (some ⟨mb, 0, none⟩)) ∧ w'.cell? ⟨a, 6, none⟩ = some (.int .u32 m.max)) (exact ⟨(hb3.cell 5).trans rfl, (hb3.cell 6).trans rfl⟩) (first
        | (go_at_call 44; refine hop.mono ?_; rintro e W4 ⟨tm4, c4, rfl, _, hc4, hn4⟩; replace hb3 := hb3.keep tm4.keep (h3.ka.ne (by decide))))
      all_goals
        have hA4 := h3.drew.newCell tm4.is_ tm4.keep hc4 hn4
        have hz4 : (W4.setCell ⟨a, 7, none⟩ (.pointer (some ⟨c4, 0, none⟩))).heap.size = W4.heap.size := by simp [World.setCell]
        have t4 := DevAt.toIs hA4 t3.drew.is_ (fun x hx => (paint_sub (w := W3.drew) (w' := W4) hF3 x hx).imp id (fun hx => by rw [hz4]; exact hx)) ((tm4.keep.mono (fun x _ hx => hF3 x hx.has)).setCell (p := ⟨a, 7, none⟩) (fun _ => t3.is_.Fa) _)
        have T := DevTo.trans hI t3.drew t4
        have hf := hb3.frozen
        have hq := Hqq.out
        try simp only at hq
        subst hq
        clear hc
        have hc := hb3.cell
        unfold devCells at hc
        go_wp2_with fail
        go_ret
        exact ⟨rfl, T⟩
  · have hmm : mm = m.m.on := by rw [Hmm.out, if_neg hp]
    have hn0 : n = 0 := by omega
    subst hn0
    clear Hmm hmo hp h0
    subst hmm
    generalize openM m.m.on m.max = r at *
    obtain ⟨m', ko, er⟩ := r
    cases ko with
    | none =>
      have hne := hone rfl
      have ge : (er != 0) = true := by simpa using hne
      clear hone
      go_enter Tryz.func31, Tryz.ntmps31
      go_wp2_with fail
      refine hfr.mono ?_
      rintro e W1 ⟨rfl, t1⟩
      obtain ⟨⟨κ1, c1, d1, v1, g1, val1, h1, hF1⟩, hlo1⟩ := t1.is_
      have hc := h1.blk.cell
      unfold devCells at hc
      go_wp2_with fail
      refine (memOn_any mb _ _ W1 h1.mem).mono ?_
      rintro e W2 ⟨rfl, tm2⟩
      have t2 := DevTo.trans hI t1 (h1.toMem t1.is_ hF1 tm2)
      clear hc
      have t3 : DevTo B w a mb { (m.life 1) with m := m.m.on } F W2 := t2
      obtain ⟨κ3, c3, d3, v3, g3, val3, h3, hF3, hop⟩ := tail W2 t3
      have hb3 := h3.blk.drew
      have hc := h3.blk.cell
      unfold devCells at hc
      have hmem := h3.mem
      clear tail
      try simp only at hop
      go_wp2_with fail
      go_region_held3 (fun w' => w'.cell? ⟨a, 5, none⟩ = some (.pointer (some ⟨mb, 0, none⟩)) ∧ w'.cell? ⟨a, 6, none⟩ = some (.int .u32 m.max)) (exact ⟨(hb3.cell 5).trans rfl, (hb3.cell 6).trans rfl⟩) (first
        | (go_at_call 44; refine hop.mono ?_; rintro e W4 ⟨tm4, rfl⟩; replace hb3 := hb3.keep tm4.keep (h3.ka.ne (by decide))))
      all_goals
        have h4 := h3.drew.toCell t3.drew.is_ hF3 tm4.is_ (Blk.keep h3.drew.cell tm4.keep (h3.kc.ne (by decide))) (tm4.keep.mono (fun _ _ h => .inl h))
        have T := DevTo.trans hI t3.drew h4
        have hq := Hqq.out
        try simp only at hq
        subst hq
        clear hc
        go_wp2_with fail
        refine (devDown_any B a mb _ _ W4 T.is_ hi.plaw).mono ?_
        rintro e W5 ⟨rfl, t5⟩
        have T5 := DevTo.trans hI T t5
        go_wp2_with fail
        go_ret
        exact ⟨rfl, T5⟩
    | some ko =>
      clear hone
      go_enter Tryz.func31, Tryz.ntmps31
      go_wp2_with fail
      refine hfr.mono ?_
      rintro e W1 ⟨rfl, t1⟩
      obtain ⟨⟨κ1, c1, d1, v1, g1, val1, h1, hF1⟩, hlo1⟩ := t1.is_
      have hc := h1.blk.cell
      unfold devCells at hc
      go_wp2_with fail
      refine (memOn_any mb _ _ W1 h1.mem).mono ?_
      rintro e W2 ⟨rfl, tm2⟩
      have t2 := DevTo.trans hI t1 (h1.toMem t1.is_ hF1 tm2)
      clear hc
      have t3 : DevTo B w a mb { (m.life 1) with m := m.m.on } F W2 := t2
      obtain ⟨κ3, c3, d3, v3, g3, val3, h3, hF3, hop⟩ := tail W2 t3
      have hb3 := h3.blk.drew
      have hc := h3.blk.cell
      unfold devCells at hc
      have hmem := h3.mem
      clear tail
      try simp only at hop
      go_wp2_with fail
      go_region_held3 (fun w' => w'.cell? ⟨a, 5, none⟩ = some (.pointer (some ⟨mb, 0, none⟩)) ∧ w'.cell? ⟨a, 6, none⟩ = some (.int .u32 m.max)) (exact ⟨(hb3.cell 5).trans rfl, (hb3.cell 6).trans rfl⟩) (first
        | (go_at_call 44; refine hop.mono ?_; rintro e W4 ⟨tm4, c4, rfl, _, hc4, hn4⟩; replace hb3 := hb3.keep tm4.keep (h3.ka.ne (by decide))))
      all_goals
        have hA4 := h3.drew.newCell tm4.is_ tm4.keep hc4 hn4
        have hz4 : (W4.setCell ⟨a, 7, none⟩ (.pointer (some ⟨c4, 0, none⟩))).heap.size = W4.heap.size := by simp [World.setCell]
        have t4 := DevAt.toIs hA4 t3.drew.is_ (fun x hx => (paint_sub (w := W2.drew) (w' := W4) hF3 x hx).imp id (fun hx => by rw [hz4]; exact hx)) ((tm4.keep.mono (fun x _ hx => hF3 x hx.has)).setCell (p := ⟨a, 7, none⟩) (fun _ => t3.is_.Fa) _)
        have T := DevTo.trans hI t3.drew t4
        have hf := hb3.frozen
        have hq := Hqq.out
        try simp only at hq
        subst hq
        clear hc
        have hc := hb3.cell
        unfold devCells at hc
        go_wp2_with fail
        go_ret
        exact ⟨rfl, T⟩
end Go.Proofs.YtbkkfkbgcklkgaaGreat
/- Both devices in one memory. -/
namespace Go.Proofs.YtbkkfkbgcklkgaaGreat
open Go.RowKit

/-- The program's device m1 at a (its memory at ma), the reference's device m2 at b (its memory at mb): apart, both from B on. -/
structure PairD (B : Nat) (w : World) (a ma b mb : Nat) (m1 m2 : DevM) (F1 F2 : Nat → Prop) : Prop where
  dev : DevIs B w a ma m1 F1
  ref : RDIs B w b mb m2 F2
  dj : ∀ x, F1 x → ¬ F2 x
section
variable {B a ma b mb : Nat} {w w' : World} {m1 m2 m1' m2' : DevM} {F1 F2 : Nat → Prop}
theorem PairD.onDev (h : PairD B w a ma b mb m1 m2 F1 F2) (t : DevTo B w a ma m1' F1 w') : PairD B w' a ma b mb m1' m2 (grow F1 w w') F2 where
  dev := t.is_
  ref := h.ref.keepS t.keep (fun x hx h1 => h.dj x h1 hx)
  dj := fun x hx h2 => hx.elim (fun hx => h.dj x hx h2) (fun hx => by have := (h.ref.lo x h2).2; omega)
theorem PairD.onRef (h : PairD B w a ma b mb m1 m2 F1 F2) (t : RDTo B w b mb m2' F2 w') : PairD B w' a ma b mb m1 m2' F1 (grow F2 w w') where
  dev := h.dev.keepS t.keep (fun x hx h2 => h.dj x hx h2)
  ref := t.is_
  dj := fun x hx h2 => h2.elim (fun h2 => h.dj x hx h2) (fun h2 => by have := (h.dev.lo x hx).2; omega)
theorem PairD.below (h : PairD B w a ma b mb m1 m2 F1 F2) (hb : Below w.heap.size w w') : PairD B w' a ma b mb m1 m2 F1 F2 :=
  ⟨h.dev.below hb, h.ref.below hb, h.dj⟩
theorem DevTo.belowB (h : DevIs B w a ma m1 F1) (t : DevTo B w a ma m1' F1 w') : Below B w w' := t.keep.below h.Ble (fun x hx => (h.lo x hx).1)
theorem RDTo.belowB (h : RDIs B w b mb m2 F2) (t : RDTo B w b mb m2' F2 w') : Below B w w' := t.keep.below h.Ble (fun x hx => (h.lo x hx).1)
/-- Both devices, as they stand behind calls that began at w0: what else there was stays. -/
structure RunD (B : Nat) (w0 : World) (F1 F2 : Nat → Prop) (w : World) (a ma b mb : Nat) (m1 m2 : DevM) (F1' F2' : Nat → Prop) : Prop where
  pair : PairD B w a ma b mb m1 m2 F1' F2'
  sub1 : ∀ x, F1' x → F1 x ∨ w0.heap.size ≤ x
  sub2 : ∀ x, F2' x → F2 x ∨ w0.heap.size ≤ x
  keep : Keep (fun x => F1 x ∨ F2 x) w0 w
theorem RunD.start (h : PairD B w a ma b mb m1 m2 F1 F2) : RunD B w F1 F2 w a ma b mb m1 m2 F1 F2 := ⟨h, fun _ h => .inl h, fun _ h => .inl h, Keep.refl _ _⟩
section
variable {w0 : World} {F1' F2' : Nat → Prop}
theorem RunD.below (h : RunD B w0 F1 F2 w a ma b mb m1 m2 F1' F2') (hb : Below w.heap.size w w') : RunD B w0 F1 F2 w' a ma b mb m1 m2 F1' F2' :=
  ⟨h.pair.below hb, h.sub1, h.sub2, h.keep.trans (Keep.of_below hb)⟩
theorem RunD.onDev (h : RunD B w0 F1 F2 w a ma b mb m1 m2 F1' F2') (t : DevTo B w a ma m1' F1' w') : RunD B w0 F1 F2 w' a ma b mb m1' m2 (grow F1' w w') F2' :=
  ⟨h.pair.onDev t, fun x hx => hx.elim (h.sub1 x) (fun hx => .inr (Nat.le_trans h.keep.size hx.1)), h.sub2, h.keep.andThen t.keep (fun x hl hx => (h.sub1 x hx).elim .inl (fun h => by omega))⟩
theorem RunD.onRef (h : RunD B w0 F1 F2 w a ma b mb m1 m2 F1' F2') (t : RDTo B w b mb m2' F2' w') : RunD B w0 F1 F2 w' a ma b mb m1 m2' F1' (grow F2' w w') :=
  ⟨h.pair.onRef t, h.sub1, fun x hx => hx.elim (h.sub2 x) (fun hx => .inr (Nat.le_trans h.keep.size hx.1)), h.keep.andThen t.keep (fun x hl hx => (h.sub2 x hx).elim .inr (fun h => by omega))⟩
theorem RunD.belowB (h : RunD B w0 F1 F2 w a ma b mb m1 m2 F1' F2') (h0 : PairD B w0 a ma b mb m1' m2' F1 F2) : Below B w0 w :=
  h.keep.below h0.dev.Ble (fun x hx => hx.elim (fun h => (h0.dev.lo x h).1) (fun h => (h0.ref.lo x h).1))
end
end
theorem rdArm_any (B b mb : Nat) (d : DevM) (F : Nat → Prop) (n : Int) (w : World) (hI : RDIs B w b mb d F) (hn : n < 9223372036854775808) :
    Calls Tryz.prog 69 #[.pointer (some ⟨mb, 0, none⟩), .int .i64 n] w fun e w' => e = .returned (.int .i64 (d.m.arm n).2) ∧ RDTo B w b mb { d with m := (d.m.arm n).1 } F w' := by
  have hI0 := hI
  obtain ⟨⟨κ, A, c, vv, val, cb, hH, hF⟩, hlo⟩ := hI
  refine (rmemArm_any mb d.m (Of κ 5) n w hH.mem hn).mono ?_
  rintro e w' ⟨he, t⟩
  exact ⟨he, hH.toMem hI0 hF t⟩
theorem devArmTo_any (B a mb : Nat) (d : DevM) (F : Nat → Prop) (n : Int) (w : World) (hI : DevIs B w a mb d F) (hn : n < 9223372036854775808) :
    Calls Tryz.prog 30 #[.pointer (some ⟨mb, 0, none⟩), .int .i64 n] w fun e w' => e = .returned (.int .i64 (d.m.arm n).2) ∧ DevTo B w a mb { d with m := (d.m.arm n).1 } F w' := by
  have hI0 := hI
  obtain ⟨⟨κ, c, dd, v, g, val, hH, hF⟩, hlo⟩ := hI
  refine (memArm_any mb d.m _ n w hH.mem hn).mono ?_
  rintro e w' ⟨rfl, t⟩
  exact ⟨rfl, hH.toMem hI0 hF t⟩
end Go.Proofs.YtbkkfkbgcklkgaaGreat
/- A device's Write, Tick, Ack, Code, Log, See. -/
namespace Go.Proofs.YtbkkfkbgcklkgaaGreat
open Go.RowKit
set_option maxHeartbeats 10000000
set_option maxRecDepth 100000

theorem devCode_any (B a mb : Nat) (m : DevM) (F : Nat → Prop) (w : World) (hI : DevIs B w a mb m F) : Calls Tryz.prog 39 #[.pointer (some ⟨a, 0, none⟩)] w fun e w' => e = .returned (.int .u32 m.p.code) ∧ w' = w := by
  obtain ⟨⟨κ, c, d, v, g, val, hH, hF⟩, hlo⟩ := hI
  have hc := hH.blk.cell
  unfold devCells at hc
  go_enter Tryz.func39, Tryz.ntmps39
  go_wp2_with fail
  go_ret
  exact ⟨rfl, rfl⟩
theorem devAck_any (B a mb : Nat) (m : DevM) (F : Nat → Prop) (w : World) (hI : DevIs B w a mb m F) : Calls Tryz.prog 38 #[.pointer (some ⟨a, 0, none⟩)] w fun e w' => e = .returned (.int .i64 m.ack.2) ∧ DevTo B w a mb m.ack.1 F w' := by
  have hI0 := hI
  obtain ⟨⟨κ, c, d, v, g, val, hH, hF⟩, hlo⟩ := hI
  have hc := hH.blk.cell
  unfold devCells at hc
  by_cases h6 : m.state = 6
  · have e1 : m.ack = (m, 70) := by unfold DevM.ack; rw [if_pos h6]
    rw [e1]
    rw [h6] at hc
    go_enter Tryz.func38, Tryz.ntmps38
    go_wp2_with fail
    go_ret
    exact ⟨rfl, DevTo.refl hI0⟩
  · have e1 : m.ack = ({ m with valve := m.valve.ack }, if m.valve.request then 0 else 110) := by
      unfold DevM.ack ValveM.ack
      rw [if_neg h6]
      cases m.valve.request <;> rfl
    rw [e1]
    have g6 : (m.state == 6) = false := by simpa using h6
    have hack := valveAck_any v m.valve _ _ w hH.valve
    generalize (if m.valve.request then (0 : Int) else 110) = r at *
    clear e1
    go_enter Tryz.func38, Tryz.ntmps38
    go_wp2_with fail
    refine hack.mono ?_
    rintro e w1 ⟨rfl, hv1, hk1⟩
    go_wp2_with fail
    go_ret
    exact ⟨rfl, hH.toValve hI0 hF hv1 hk1 (fun x hx => hx)⟩
theorem devTick_any (B a mb : Nat) (m : DevM) (F : Nat → Prop) (n : Int) (w : World) (hI : DevIs B w a mb m F) (hi : m.Inv) (hlen : m.log.length < 1073741800) :
    Calls Tryz.prog 37 #[.pointer (some ⟨a, 0, none⟩), .int .i64 n] w fun e w' => e = .returned (.int .i64 (m.tick n).2) ∧ DevTo B w a mb (m.tick n).1 F w' := by
  have hI0 := hI
  obtain ⟨⟨κ, c, d, v, g, val, hH, hF⟩, hlo⟩ := hI
  have hc := hH.blk.cell
  unfold devCells at hc
  by_cases h6 : m.state = 6
  · have e1 : m.tick n = (m, 70) := by unfold DevM.tick; rw [if_pos h6]
    rw [e1]
    rw [h6] at hc
    go_enter Tryz.func37, Tryz.ntmps37
    go_wp2_with fail
    go_ret
    exact ⟨rfl, DevTo.refl hI0⟩
  have g6 : (m.state == 6) = false := by simpa using h6
  by_cases hn : n < 0
  · have e1 : m.tick n = (m, 2) := by unfold DevM.tick; rw [if_neg h6, if_pos hn]
    rw [e1]
    clear e1
    go_enter Tryz.func37, Tryz.ntmps37
    go_wp2_with fail
    refine (dogTicks_neg d n w hn).mono ?_
    rintro e w1 ⟨rfl, rfl⟩
    go_wp2_with fail
    go_ret
    exact ⟨rfl, DevTo.refl hI0⟩
  · have hp8 := hi.p8
    have htk := dogTicks_any d m.p.watch m.since n w hH.dog hi.since.1 hi.since.2 hp8.2.2.1.2 (by omega)
    have htm : m.tick n = ((if (ticksM m.p.watch m.since n).2 then ({ m with since := (ticksM m.p.watch m.since n).1 } : DevM).trip 100 else { m with since := (ticksM m.p.watch m.since n).1 }), 0) := by unfold DevM.tick; rw [if_neg h6, if_neg hn]
    rw [htm]
    cases hr : (ticksM m.p.watch m.since n).2 with
    | false =>
      rw [hr] at htk
      simp only [Bool.false_eq_true, if_false]
      clear htm hp8
      go_enter Tryz.func37, Tryz.ntmps37
      go_wp2_with fail
      refine htk.mono ?_
      rintro e w1 ⟨rfl, hd1, hk1, hs1⟩
      have t1 := hH.toDog hI0 hF hd1 hk1
      clear hs1
      go_wp2_with fail
      go_ret
      exact ⟨rfl, t1⟩
    | true =>
      rw [hr] at htk
      simp only [if_true]
      clear htm hp8
      go_enter Tryz.func37, Tryz.ntmps37
      go_wp2_with fail
      refine htk.mono ?_
      rintro e w1 ⟨rfl, hd1, hk1, hs1⟩
      have t1 := hH.toDog hI0 hF hd1 hk1
      clear hs1
      go_wp2_with fail
      refine (devTrip_any B a mb _ _ 100 w1 (by decide) t1.is_ (by show m.log.length < _; omega)).mono ?_
      rintro e w2 ⟨rfl, t2⟩
      go_wp2_with fail
      go_ret
      exact ⟨rfl, DevTo.trans hI0 t1 t2⟩
theorem devWrite_any (B a mb : Nat) (m : DevM) (F : Nat → Prop) (A : Option Addr) (n c Br : Nat) (l : List UInt8) (hold : Bool) (w : World) (hI : DevIs B w a mb m F) (hi : m.Inv) (hr : Reads w Br 1 A n (u8c l)) (hB : Br ≤ w.heap.size) (hA : A = none → n = 0) :
    Calls Tryz.prog 24 #[.pointer (some ⟨a, 0, none⟩), .slice A n c, .bool hold] w fun e w' => e = .returned (.int .i64 (m.write l hold).2) ∧ DevTo B w a mb (m.write l hold).1 F w' := by
  have hI0 := hI
  obtain ⟨⟨κ, c', d, v, g, val, hH, hF⟩, hlo⟩ := hI
  have hb := hH.blk
  have hc := hb.cell
  unfold devCells at hc
  have hl : l.length = n := by have := hr.1; simpa [u8c] using this
  by_cases h6 : m.state = 6
  · have e1 : m.write l hold = (m, 70) := by unfold DevM.write; rw [if_pos h6]
    rw [e1]
    rw [h6] at hc
    clear e1 hl
    go_enter Tryz.func24, Tryz.ntmps24
    go_wp2_with fail
    go_ret
    exact ⟨rfl, DevTo.refl hI0⟩
  have g6 : (m.state == 6) = false := by simpa using h6
  by_cases he : (n : Int) = m.p.inn
  · have e1 : m.write l hold = ({ m with value := l, hold := hold }, 0) := by unfold DevM.write; rw [if_neg h6, hl, if_neg (by simpa using he)]
    rw [e1]
    have g1 : ((n : Int) != m.p.inn) = false := by simpa using he
    have hn : n ≤ 1000000 := by have := hi.p8; omega
    have Hl := Lib.hid hl
    clear e1 hl he
    go_enter Tryz.func24, Tryz.ntmps24
    go_wp2_with fail
    refine (cloneByte_any A n c l Br w hA hr hB hn).mono ?_
    rintro e w1 ⟨x, rfl, hown, _, _, hb1⟩
    have h1 := hH.below hb1
    obtain ⟨Ax, cx, rfl⟩ := own_slice hown
    have hb2 := h1.blk
    clear hc
    have hc := hb2.cell
    have hf := hb2.frozen
    unfold devCells at hc
    have hs1 := hb1.size
    have hlt := hown.lt
    go_wp2_with fail
    go_ret
    have hka := (hI0.lo a hI0.Fa).2
    have hfar : (Value.slice Ax n cx).ownBlock ≠ some a := fun e => by have := (hlt a e).1; omega
    have hk : Keep (fun x => x = a) w1 ((w1.setCell ⟨a, 16, none⟩ (.slice Ax n cx)).setCell ⟨a, 17, none⟩ (.bool hold)) := ((Keep.refl (fun x => x = a) w1).setCell (p := ⟨a, 16, none⟩) (fun _ => rfl) _).setCell (p := ⟨a, 17, none⟩) (fun _ => rfl) _
    have hz : ((w1.setCell ⟨a, 16, none⟩ (.slice Ax n cx)).setCell ⟨a, 17, none⟩ (.bool hold)).heap.size = w1.heap.size := by simp [World.setCell]
    have hbk : Blk ((w1.setCell ⟨a, 16, none⟩ (.slice Ax n cx)).setCell ⟨a, 17, none⟩ (.bool hold)) a 109 (devCells { m with value := l, hold := hold } mb c' d v g (.slice Ax n cx)) := by simpa [devCells] using (hb2.set_ 16 (.slice Ax n cx)).set_ 17 (.bool hold)
    have hown2 := own_base (own_far (own_far hown hfar 16 (.slice Ax n cx)) hfar 17 (.bool hold)) (Nat.zero_le _)
    generalize (w1.setCell ⟨a, 16, none⟩ (.slice Ax n cx)).setCell ⟨a, 17, none⟩ (.bool hold) = w2 at *
    have hna : ∀ t x, t ≠ 0 → Of κ t x → ¬ x = a := fun t x ht hx e => (hx.ne ht) (e ▸ hH.ka)
    have hkk : Keep F w w2 := (Keep.of_below hb1).andThen hk (fun x _ e => e ▸ hI0.Fa)
    refine ⟨rfl, DevAt.toIs (κ := paint κ 4 w w2) (c := c') (d := d) (v := v) (g := g) (val := .slice Ax n cx) {
      blk := hbk
      dog := Blk.keep h1.dog hk (hna 1 _ (by decide) h1.kd)
      valve := h1.valve.keep hk (fun x => hna 2 x (by decide)) (fun x hx => paint_old hx hH.lo)
      log := h1.log.keep hk (fun x => hna 3 x (by decide)) (fun x hx => paint_old hx hH.lo)
      value := by show w2.ownsRow 0 _ 1 _ l.length _; rw [Hl.out]; exact hown2
      mem := h1.mem.keep hk (fun x => hna 5 x (by decide)) (fun x hx => paint_old hx hH.lo)
      cell := Blk.keep h1.cell hk (hna 6 _ (by decide) h1.kc)
      ka := paint_old hH.ka hH.lo
      kd := paint_old hH.kd hH.lo
      kx := fun x hx => paint_new (hlt x hx).1 (by rw [hz]; exact (hlt x hx).2)
      kc := paint_old hH.kc hH.lo
      lo := paint_lo hH.lo hH.Ble (by rw [hz]; exact hs1) } hI0 (paint_sub hF) hkk⟩
  · have e1 : m.write l hold = (m, 45) := by unfold DevM.write; rw [if_neg h6, hl, if_pos he]
    rw [e1]
    have g1 : ((n : Int) != m.p.inn) = true := by simpa using he
    clear e1 hl
    go_enter Tryz.func24, Tryz.ntmps24
    go_wp2_with fail
    go_ret
    exact ⟨rfl, DevTo.refl hI0⟩
theorem devLog_any (B a mb : Nat) (m : DevM) (F : Nat → Prop) (w : World) (hI : DevIs B w a mb m F) (hlen : m.log.length < 1073741800) :
    Calls Tryz.prog 35 #[.pointer (some ⟨a, 0, none⟩)] w fun e w' => ∃ x, e = .returned (.tuple #[x, .int .i64 m.log.length]) ∧ w'.ownsRow w.heap.size 175 4 x (kept m.log).length (recsCells (kept m.log)) ∧ Below w.heap.size w w' := by
  obtain ⟨⟨κ, c, d, v, g, val, hH, hF⟩, hlo⟩ := hI
  have hb := hH.blk.drew
  have hl := hH.log.drew
  have hbe : Below w.heap.size w w.drew := (Below.refl _ w).drew
  have hc := hH.blk.cell
  unfold devCells at hc
  go_enter Tryz.func35, Tryz.ntmps35
  go_wp2_with fail
  go_region_held3 (fun w' => w'.cell? ⟨a, 10, none⟩ = some (.pointer (some ⟨g, 0, none⟩))) (with_reducible (first | exact (hb.cell 10).trans rfl)) (first
    | (go_at_call 73; refine (diagRecords_any g m.log _ _ hl).mono ?_; rintro e W ⟨x, rfl, hown, hb1⟩; obtain ⟨Ax, cx, rfl⟩ := own_slice hown; replace hb := hb.below hb1 hb.lt; replace hl := hl.below hb1; replace hbe := hbe.trans hb1)
    | (go_at_call 74; refine (diagTotal_any g m.log _ _ hl (by omega)).mono ?_; rintro e W2 ⟨rfl, rfl⟩))
  all_goals
    go_wp2_with fail
    refine bodyPost_ret (v := .tuple #[.slice Ax (kept m.log).length cx, .int .i64 m.log.length]) (by simp [results, Tryz.results35, go_sem]) rfl ⟨_, rfl, hown, hbe⟩
end Go.Proofs.YtbkkfkbgcklkgaaGreat
/- The device's law's step (parapetlaw13.step): one call, on both. -/
namespace Go.Proofs.YtbkkfkbgcklkgaaGreat
open Go.RowKit
set_option maxHeartbeats 10000000
set_option maxRecDepth 100000

theorem stepDS34 {w : World} {o0 : Nat} {x1 x3 x4 : Value} {x0 x2 x5 x6 : Value} (h : Blk w o0 45 #[x0, x1, x2, x3, x4, x5, x6]) :
    w.cell? ⟨o0, 3, none⟩ = some x3 ∧ w.cell? ⟨o0, 4, none⟩ = some x4 := ⟨(h.cell 3).trans rfl, (h.cell 4).trans rfl⟩
theorem frameD_len {m : DevM} {o : OpM} {f : List UInt8} (h : frameD m o = some f) (hod : o.data.length ≤ 140737488351232) : f.length ≤ 140737488351232 := by
  unfold frameD at h
  split at h
  · injection h with h
    subst h
    exact hod
  split at h
  · injection h with h
    subst h
    have := encode_small (unitOpD m o)
    omega
  split at h
  · injection h with h
    subst h
    have := encode_small (unitOpD m o)
    cases hb : burstM (unitOpD m o).encode o.at_ o.word with
    | none => simp only [Option.getD_none]; omega
    | some x => have := burst_length hb; simp only [Option.getD_some]; omega
  · cases h
/-- A device behind one call, by its frame. -/
def stepDBy (m : DevM) (o : OpM) : Option (List UInt8) → DevM
  | some b => (m.receive b).1
  | none => if o.kind = 8 then (m.tick o.n).1 else if o.kind = 9 then (m.write o.data o.odd).1 else if o.kind = 10 then m.ack.1 else if o.kind = 11 then (m.reset o.n).1 else if o.kind = 12 then { m with m := (m.m.arm o.n).1 } else m
theorem stepD_by (m : DevM) (o : OpM) : stepD m o = stepDBy m o (frameD m o) := rfl
theorem armS {w : World} {b o0 mb cb : Nat} {m : DevM} {lg vv val : Value} {x0 x1 x2 x3 x4 x5 x6 : Value} (h : Blk w b 120 (rdCells m mb cb lg vv val)) (hO : Blk w o0 45 #[x0, x1, x2, x3, x4, x5, x6]) :
    w.cell? ⟨b, 5, none⟩ = some (.pointer (some ⟨mb, 0, none⟩)) ∧ w.cell? ⟨o0, 1, none⟩ = some x1 := ⟨(h.cell 5).trans rfl, (hO.cell 1).trans rfl⟩
theorem l13step_any (B a ma b mb : Nat) (m : DevM) (F1 F2 : Nat → Prop) (o : OpM) (A : Option Addr) (c : Nat) (w : World) (hP : PairD B w a ma b mb m m F1 F2) (hi : m.Inv) (hlen : m.log.length < 1073741600) (ho : o.Ok) (hr : Reads w w.heap.size 1 A o.data.length (u8c o.data)) (hdj : 0 < o.data.length → ∀ ad, A = some ad → ¬ F1 ad.block ∧ ¬ F2 ad.block) (hoc : o.data.length ≤ c) (hod : o.data.length ≤ 140737488351232) :
    Calls Tryz.prog 32 #[.pointer (some ⟨a, 0, none⟩), .pointer (some ⟨ma, 0, none⟩), .pointer (some ⟨b, 0, none⟩), opVal o (.slice A o.data.length c)] w fun e w' => e = .returned (.bool true) ∧ ∃ F1' F2', RunD B w F1 F2 w' a ma b mb (stepD m o) (stepD m o) F1' F2' := by
  obtain ⟨kind, on_, flags, odd, data, at_, word⟩ := o
  simp only at *
  have hB := hP.dev.Ble
  have hon := ho.n
  simp only at hon
  have hbO := (Below.refl w.heap.size w).alloc (Nat.le_refl _) (.cells #[.int .i64 kind, .int .i64 on_, .int .i64 flags, .bool odd, .slice A data.length c, .int .i64 at_, .int .u32 word] 45)
  have hO := Blk.new w 45 #[.int .i64 kind, .int .i64 on_, .int .i64 flags, .bool odd, .slice A data.length c, .int .i64 at_, .int .u32 word]
  have hP1 := (RunD.start hP).below hbO
  have hr1 := hr.below hbO
  have hs1 := hbO.size
  have hfr := l13Frame_any B b mb m F2 ⟨kind, on_, flags, odd, data, at_, word⟩ A c w.heap.size _ hP1.pair.ref hi ho hr1 (by omega) hoc hod
  obtain ⟨q, Hq⟩ : ∃ q, Hid (q = stepD m ⟨kind, on_, flags, odd, data, at_, word⟩) := ⟨_, Lib.hid rfl⟩
  rw [← Hq.out]
  unfold opVal at *
  simp only at hfr
  go_enter Tryz.func32, Tryz.ntmps32
  go_upto_region 1 with fail
  obtain ⟨o0, Ho0⟩ : ∃ e, Hid (e = w.heap.size) := ⟨_, Lib.hid rfl⟩
  rw [← Ho0.out] at hO ⊢
  generalize w.alloc (.cells _ 45) = W1 at *
  have hoc1 := hO.cell
  obtain ⟨r, Hr⟩ : ∃ r, Hid (r = frameD m ⟨kind, on_, flags, odd, data, at_, word⟩) := ⟨_, Lib.hid rfl⟩
  rw [← Hr.out] at hfr
  have hstep : q = stepDBy m ⟨kind, on_, flags, odd, data, at_, word⟩ r := by rw [Hq.out, Hr.out]; rfl
  have Hst := Lib.hid hstep
  clear hstep Hq
  go_wp2_with fail
  refine hfr.mono ?_
  rintro e W2 ⟨v2, rfl, hn2, hs2, hb2⟩
  have hP2 := hP1.below hb2
  have hO2 := hO.below hb2 hO.lt
  have hbO2 := hbO.trans (hb2.mono hs1)
  have hr2 := hr1.below (hb2.mono hs1)
  clear hoc1 hfr hP1 hr1
  cases r with
  | some f =>
    have hown2 := hs2 f rfl
    have hf := frameD_len Hr.out.symm hod
    have hq : q = (m.receive f).1 := Hst.out
    subst hq
    clear Hst hn2 hs2
    obtain ⟨A2, c2, rfl⟩ := own_slice hown2
    obtain ⟨i0, hi0, hz0, hz1, hz2⟩ := info_parts byte_info
    go_wp2_with (at_builtin; refine wpList_append_any _ rfl (.tmp 24) (.tmp 25) _ rfl W2.heap.size 5 i0 _ 1 1 Tryz.underlying41 hi0 hz0 hz1 hz2 rfl (by omega) (.slice (some ⟨W2.heap.size, 0, none⟩) 0 0) 0 [] rfl (World.ownsRow_made W2 #[] 0 (Nat.le_refl _) (by unfold maxLen; omega) rfl) W2.heap.size A2 f.length c2 (u8c f) rfl ((Reads.of_own hown2).alloc (Nat.le_refl _) _) (u8c_one f) (by unfold maxLen; omega) (by omega) (by simp) ?_; intro v3 W3 hown3 hg3 hat3; rw [Nat.zero_add, List.nil_append] at hown3; obtain ⟨A3, c3, rfl⟩ := own_slice hown3)
    have hb3 := ((Below.refl W2.heap.size W2).alloc (Nat.le_refl _) (.cells #[] 5)).grown hg3 (by simp) (fun k hk => by simp [Value.ownBlock] at hk; omega)
    have hP3 := hP2.below hb3
    have hr3 := (Reads.of_own hown2).below hb3
    clear hg3 hat3
    refine (devReceive_any B a ma m F1 A3 f.length c3 W3.heap.size f W3 hP3.pair.dev hi (by omega) (Reads.of_own hown3) (Nat.le_refl _) (own_cap hown3) (by omega)).mono ?_
    rintro e W4 ⟨x4, rfl, hown4, t4⟩
    obtain ⟨A4, c4, rfl⟩ := own_slice hown4
    have hP4 := hP3.onDev t4.too
    have hlt2 := hown2.lt
    have hr4 := hr3.keepS t4.too.keep hb3.size (fun ad e hx => by subst e; have h1 := (hlt2 ad.block rfl).1; have h2 := (hP.dev.lo ad.block hx).2; omega)
    have hB2 := hbO2.size
    have hB3 := hb3.size
    have hB4 := t4.too.keep.size
    go_wp2_with fail
    refine (rdReceive_any B b mb m F2 A2 f.length c2 W2.heap.size f W4 hP4.pair.ref hi (by omega) hr4 (by omega) (own_cap hown2)).mono ?_
    rintro e W5 ⟨x5, rfl, hown5, t5⟩
    obtain ⟨A5, c5, rfl⟩ := own_slice hown5
    have hP5 := hP4.onRef t5.too
    have hr44 := (Reads.of_own hown4).keepS t5.too.keep (Nat.le_refl _) (fun ad e hx => by subst e; have h1 := (hown4.lt ad.block rfl).1; have h2 := (hP.ref.lo ad.block hx).2; omega)
    have hcv4 := conv_reads (c := c4) hr44
    have hcv5 := conv_reads (c := c5) (Reads.of_own hown5)
    clear t4 t5 hr44
    generalize (m.receive f).2.1 = fr at *
    generalize (m.receive f).2.2 = er at *
    go_wp2_with fail
    go_ret
    exact ⟨rfl, _, _, hP5⟩
  | none =>
    have hv2 := hn2 rfl
    subst hv2
    have hq : q = if kind = 8 then (m.tick on_).1 else if kind = 9 then (m.write data odd).1 else if kind = 10 then m.ack.1 else if kind = 11 then (m.reset on_).1 else if kind = 12 then { m with m := (m.m.arm on_).1 } else m := Hst.out
    clear Hst hn2 hs2 Hr
    have ho1 : ∀ x, F1 x → x ≠ o0 := fun x hx e => by have h1 := (hP.dev.lo x hx).2; have h2 := Ho0.out; omega
    have ho2 : ∀ x, F2 x → x ≠ o0 := fun x hx e => by have h1 := (hP.ref.lo x hx).2; have h2 := Ho0.out; omega
    have hB2 := hbO2.size
    have hBW : B ≤ W2.heap.size := by omega
    have hoc2 := hO2.cell
    by_cases k8 : kind = 8
    · subst k8
      rw [if_pos rfl] at hq
      subst hq
      go_upto_region 8 with fail
      clear hoc2
      replace hO2 := hO2.drew
      replace hP2 := hP2.below (Below.refl W2.heap.size W2).drew
      go_wp2_with fail
      go_region_held (fun w' => w'.cell? ⟨o0, 1, none⟩ = some (.int .i64 on_)) (exact (hO2.cell 1).trans rfl) (first
        | (go_at_call 37; refine (devTick_any B a ma m F1 on_ _ hP2.pair.dev hi (by omega)).mono ?_; rintro e W3 ⟨rfl, t3⟩; replace hO2 := hO2.keep t3.keep (fun h => ho1 _ h rfl); replace hP2 := hP2.onDev t3; clear t3)
        | (go_at_call 66; refine (rdTick_any B b mb m F2 on_ _ hP2.pair.ref hi (by omega)).mono ?_; rintro e W4 ⟨rfl, t4⟩; replace hO2 := hO2.keep t4.keep (fun h => ho2 _ h rfl); replace hP2 := hP2.onRef t4; clear t4))
      go_wp2_with fail
      go_ret
      exact ⟨rfl, _, _, hP2⟩
    have g8 : (kind == 8) = false := by simpa using k8
    rw [if_neg k8] at hq
    by_cases k9 : kind = 9
    · subst k9
      rw [if_pos rfl] at hq
      subst hq
      obtain ⟨i0, hi0, hz0, hz1, hz2⟩ := info_parts byte_info
      go_upto_region 10 with fail
      clear hoc2
      go_wp2_with fail
      go_region_held3 (fun w' => w'.cell? ⟨o0, 3, none⟩ = some (.bool odd) ∧ w'.cell? ⟨o0, 4, none⟩ = some (.slice A data.length c)) (with_reducible (first | exact stepDS34 hO2 | exact stepDS34 (hO2.alloc _) | exact stepDS34 hO2.drew | exact stepDS34 (hO2.alloc _).drew)) (first
        | (refine step_append_any _ rfl (.tmp 62) (.tmp 64) _ rfl W2.heap.size 5 i0 _ 1 1 Tryz.underlying41 hi0 hz0 hz1 hz2 rfl (by omega) (.slice (some ⟨W2.heap.size, 0, none⟩) 0 0) 0 [] rfl (World.ownsRow_made W2 #[] 0 (Nat.le_refl _) (by unfold maxLen; omega) rfl).drew w.heap.size A data.length c (u8c data) rfl (hr2.alloc hB2 _).drew (u8c_one data) (by unfold maxLen; omega) (by omega) (by simp) ?_; intro v3 W3 hown3 hg3 hat3; rw [Nat.zero_add, List.nil_append] at hown3; obtain ⟨A3, c3, rfl⟩ := own_slice hown3; have hb3 := ((Below.refl W2.heap.size W2).alloc (Nat.le_refl _) (.cells #[] 5)).drew.grown hg3 (by simp) (fun k hk => by simp [Value.ownBlock] at hk; omega); replace hO2 := hO2.below hb3 hO2.lt; replace hP2 := hP2.below hb3; replace hr2 := hr2.below (hb3.mono hB2); replace hB2 := Nat.le_trans hB2 hb3.size)
        | (go_at_call 24; refine (devWrite_any B a ma m F1 A3 data.length c3 W3.heap.size data odd _ hP2.pair.dev hi (Reads.of_own hown3) (Nat.le_refl _) (fun e => reads_nn (Reads.of_own hown3) e)).mono ?_; rintro e W4 ⟨rfl, t4⟩; replace hO2 := hO2.keep t4.keep (fun h => ho1 _ h rfl); replace hr2 := hr2.keepP t4.keep hB2 (fun h ad e => (hdj h ad e).1); replace hB2 := Nat.le_trans hB2 t4.keep.size; replace hP2 := hP2.onDev t4; clear t4)
        | (go_at_call 25; refine (rdWrite_any B b mb m F2 A data.length c w.heap.size data odd _ hP2.pair.ref hr2 hB2 hi).mono ?_; rintro e W5 ⟨rfl, t5⟩; replace hO2 := hO2.keep t5.keep (fun h => ho2 _ h rfl); replace hP2 := hP2.onRef t5; clear t5))
      go_wp2_with fail
      go_ret
      exact ⟨rfl, _, _, hP2⟩
    have g9 : (kind == 9) = false := by simpa using k9
    rw [if_neg k9] at hq
    by_cases k10 : kind = 10
    · subst k10
      rw [if_pos rfl] at hq
      subst hq
      clear k8 k9 g8 g9
      go_wp2_with fail
      refine (devAck_any B a ma m F1 _ hP2.pair.dev).mono ?_
      rintro e W3 ⟨rfl, t3⟩
      replace hP2 := hP2.onDev t3
      go_wp2_with fail
      refine (rdAck_any B b mb m F2 _ hP2.pair.ref).mono ?_
      rintro e W4 ⟨rfl, t4⟩
      replace hP2 := hP2.onRef t4
      go_wp2_with fail
      go_ret
      exact ⟨rfl, _, _, hP2⟩
    have g10 : (kind == 10) = false := by simpa using k10
    rw [if_neg k10] at hq
    by_cases k11 : kind = 11
    · subst k11
      rw [if_pos rfl] at hq
      subst hq
      clear k8 k9 k10 g8 g9 g10
      go_upto_region 14 with fail
      clear hoc2
      replace hO2 := hO2.drew
      replace hP2 := hP2.below (Below.refl W2.heap.size W2).drew
      go_wp2_with fail
      go_region_held (fun w' => w'.cell? ⟨o0, 1, none⟩ = some (.int .i64 on_)) (exact (hO2.cell 1).trans rfl) (first
        | (go_at_call 31; refine (devReset_any B a ma m F1 on_ _ hP2.pair.dev hi hon.2).mono ?_; rintro e W3 ⟨rfl, t3⟩; replace hO2 := hO2.keep t3.keep (fun h => ho1 _ h rfl); replace hP2 := hP2.onDev t3; clear t3)
        | (go_at_call 68; refine (rdReset_any B b mb m F2 on_ _ hP2.pair.ref hi hon.2).mono ?_; rintro e W4 ⟨rfl, t4⟩; replace hO2 := hO2.keep t4.keep (fun h => ho2 _ h rfl); replace hP2 := hP2.onRef t4; clear t4))
      go_wp2_with fail
      go_ret
      exact ⟨rfl, _, _, hP2⟩
    have g11 : (kind == 11) = false := by simpa using k11
    rw [if_neg k11] at hq
    by_cases k12 : kind = 12
    · subst k12
      rw [if_pos rfl] at hq
      subst hq
      clear k8 k9 k10 k11 g8 g9 g10 g11
      go_upto_region 16 with fail
      clear hoc2
      replace hO2 := hO2.drew
      replace hP2 := hP2.below (Below.refl W2.heap.size W2).drew
      obtain ⟨⟨κ, A6, c6, vv6, val6, cb6, hR, hFR⟩, hloR⟩ := id hP2.pair.ref
      have hbR := hR.blk
      have hbF : F2 b := hP2.pair.ref.Fb
      clear hR
      go_wp2_with fail
      go_region_held (fun w' => w'.cell? ⟨b, 5, none⟩ = some (.pointer (some ⟨mb, 0, none⟩)) ∧ w'.cell? ⟨o0, 1, none⟩ = some (.int .i64 on_)) (with_reducible (exact armS hbR hO2)) (first
        | (go_at_call 30; refine (devArmTo_any B a ma m F1 on_ _ hP2.pair.dev hon.2).mono ?_; rintro e W3 ⟨rfl, t3⟩; replace hO2 := hO2.keep t3.keep (fun h => ho1 _ h rfl); replace hbR := hbR.keep t3.keep (fun h => hP2.pair.dj _ h hbF); replace hP2 := hP2.onDev t3; clear t3)
        | (go_at_call 69; refine (rdArm_any B b mb m F2 on_ _ hP2.pair.ref hon.2).mono ?_; rintro e W4 ⟨rfl, t4⟩; replace hO2 := hO2.keep t4.keep (fun h => ho2 _ h rfl); replace hP2 := hP2.onRef t4; obtain ⟨⟨κ', A7, c7, vv7, val7, cb7, hR, hFR'⟩, hloR'⟩ := id hP2.pair.ref; clear hbR; have hbR := hR.blk; clear t4 hR))
      go_wp2_with fail
      go_ret
      exact ⟨rfl, _, _, hP2⟩
    have g12 : (kind == 12) = false := by simpa using k12
    rw [if_neg k12] at hq
    subst hq
    clear k8 k9 k10 k11 k12
    go_wp2_with fail
    go_ret
    exact ⟨rfl, _, _, hP2⟩
end Go.Proofs.YtbkkfkbgcklkgaaGreat
/- What is encoded is decoded: plain. -/
namespace Go.Proofs.YtbkkfkbgcklkgaaGreat

theorem lawful_kind {u : UnitM} (h : u.lawful = 0) : 1 ≤ u.kind ∧ u.kind ≤ 22 := by
  unfold UnitM.lawful at h
  split at h
  · cases h
  · rename_i h1
    simp [isHost, isDev] at h1
    by_cases h2 : u.kind < 1 ∨ 5 < u.kind
    · have := h1 h2
      omega
    · omega
theorem lawful_flags2 {u : UnitM} (h : u.lawful = 0) : 0 ≤ u.flags ∧ u.flags ≤ 15 := by
  unfold UnitM.lawful at h
  split at h
  · cases h
  split at h
  · cases h
  split at h
  · cases h
  split at h
  · cases h
  split at h
  · cases h
  split at h
  · cases h
  · rename_i h1
    simp [flagOk] at h1
    omega
theorem byteOf_nat {n : Int} (h0 : 0 ≤ n) (h1 : n < 256) : (((byteOf n).toNat : Nat) : Int) = n := by
  rw [byteOf_val]
  omega
theorem ofInt_word {n : Int} (h : 0 ≤ n ∧ n < 4294967296) : (((BitVec.ofInt 32 n).toNat : Nat) : Int) = n := by
  simp [BitVec.toNat_ofInt]
  omega
theorem decode_encode {u : UnitM} (h : u.lawful = 0) (ho : u.Ok) : decodeM u.encode = (u, 0) := by
  have hd := UnitM.lawful_len h
  have hk := lawful_kind h
  have hf := lawful_flags2 h
  have he : u.encode = sealM u.body := by unfold UnitM.encode; rw [if_pos h]
  have hlen : u.body.length = 15 + u.data.length := by
    unfold UnitM.body wordBytes wordOf
    simp
    omega
  have hsl : (sealM u.body).length = u.data.length + 19 := by
    unfold sealM wordOf
    simp [hlen]
    omega
  have hcrc : crcOf 0#32 (sealM u.body) = 0#32 := by
    unfold sealM
    exact (crc_valid u.body _ _ _ _).2 rfl
  have hu : unitOf (sealM u.body) = u := by
    obtain ⟨kind, code, session, number, flags, data⟩ := u
    unfold unitOf
    rw [hsl]
    simp only at *
    have e1 : numAt (sealM (UnitM.body ⟨kind, code, session, number, flags, data⟩)) 1 = code := by
      unfold numAt sealM UnitM.body wordBytes wordOf
      simp only [List.cons_append, List.nil_append, List.getD_cons_succ, List.getD_cons_zero]
      rw [ofWord_wordOf]
      exact ofInt_word ho.code
    have e5 : numAt (sealM (UnitM.body ⟨kind, code, session, number, flags, data⟩)) 5 = session := by
      unfold numAt sealM UnitM.body wordBytes wordOf
      simp only [List.cons_append, List.nil_append, List.getD_cons_succ, List.getD_cons_zero]
      rw [ofWord_wordOf]
      exact ofInt_word ho.session
    have e9 : numAt (sealM (UnitM.body ⟨kind, code, session, number, flags, data⟩)) 9 = number := by
      unfold numAt sealM UnitM.body wordBytes wordOf
      simp only [List.cons_append, List.nil_append, List.getD_cons_succ, List.getD_cons_zero]
      rw [ofWord_wordOf]
      exact ofInt_word ho.number
    have e0 : (((sealM (UnitM.body ⟨kind, code, session, number, flags, data⟩)).getD 0 0).toNat : Int) = kind := by
      unfold sealM UnitM.body
      simp only [List.cons_append, List.nil_append, List.getD_cons_zero]
      exact byteOf_nat (by omega) (by omega)
    have e13 : (((sealM (UnitM.body ⟨kind, code, session, number, flags, data⟩)).getD 13 0).toNat : Int) = flags := by
      unfold sealM UnitM.body wordBytes wordOf
      simp only [List.cons_append, List.nil_append, List.getD_cons_succ, List.getD_cons_zero]
      exact byteOf_nat (by omega) (by omega)
    have ed : ((sealM (UnitM.body ⟨kind, code, session, number, flags, data⟩)).drop 15).take (data.length + 19 - 19) = data := by
      unfold sealM UnitM.body wordBytes wordOf
      simp
    rw [e0, e1, e5, e9, e13, ed]
  have h14 : ((sealM u.body).getD 14 0).toNat = u.data.length := by
    have : ((((sealM u.body).getD 14 0).toNat : Nat) : Int) = (u.data.length : Int) := by
      unfold sealM UnitM.body wordBytes wordOf
      simp only [List.cons_append, List.nil_append, List.getD_cons_succ, List.getD_cons_zero]
      exact byteOf_nat (by omega) (by omega)
    omega
  rw [he]
  unfold decodeM
  rw [if_neg (by omega), if_neg (by omega), if_neg (by simp [hcrc])]
  simp only [hu, h14, h]
  simp
end Go.Proofs.YtbkkfkbgcklkgaaGreat
/- What one sees of a device. -/
namespace Go.Proofs.YtbkkfkbgcklkgaaGreat
open Go.RowKit
set_option maxHeartbeats 10000000
set_option maxRecDepth 100000

theorem devS6 {w : World} {a mb c d v g : Nat} {m : DevM} {val : Value} (h : Blk w a 109 (devCells m mb c d v g val)) :
    w.cell? ⟨a, 8, none⟩ = some (.pointer (some ⟨d, 0, none⟩)) ∧ w.cell? ⟨a, 9, none⟩ = some (.pointer (some ⟨v, 0, none⟩)) ∧ w.cell? ⟨a, 11, none⟩ = some (.int .i64 m.state) ∧ w.cell? ⟨a, 12, none⟩ = some (.int .u32 m.session) ∧ w.cell? ⟨a, 13, none⟩ = some (.int .u32 m.number) ∧ w.cell? ⟨a, 14, none⟩ = some (.int .u32 m.sent) :=
  ⟨(h.cell 8).trans rfl, (h.cell 9).trans rfl, (h.cell 11).trans rfl, (h.cell 12).trans rfl, (h.cell 13).trans rfl, (h.cell 14).trans rfl⟩
theorem devSee_any (B a mb : Nat) (m : DevM) (F : Nat → Prop) (w : World) (hI : DevIs B w a mb m F) (hi : m.Inv) :
    Calls Tryz.prog 21 #[.pointer (some ⟨a, 0, none⟩)] w fun e w' => ∃ x, e = .returned (endVal m.see x) ∧ w'.ownsRow w.heap.size 5 1 x m.see.out.length (u8c m.see.out) ∧ Below w.heap.size w w' := by
  obtain ⟨⟨κ, c, d, v, g, val, hH, hF⟩, hlo⟩ := hI
  have hlaw := hi.plaw
  simp [ParM.lawful] at hlaw
  obtain ⟨N, hN⟩ : ∃ N : Nat, m.p.out = (N : Int) := ⟨m.p.out.toNat, by omega⟩
  have hN8 : N ≤ 8 := by omega
  have hwat : m.since ≤ 1048576 := by have := hi.since.2; omega
  have hsn := hi.since.1
  have hvv : ∀ b, m.valve.value = some b → b.length = N := fun b hb => by have := hi.vval b hb; omega
  obtain ⟨sm, Hsm⟩ : ∃ s, Hid (s = m.see) := ⟨_, Lib.hid rfl⟩
  rw [← Hsm.out]
  have HN := Lib.hid hN
  clear hlaw hN
  have h1 := hH.below ((Below.refl _ w).alloc (Nat.le_refl _) (.cells #[.int .i64 0, .int .u32 0, .int .u32 0, .int .u32 0, .int .i64 0, .int .i64 0, .bool false, .bool false, .slice none 0 0] 52))
  have hE := Blk.new w 52 #[.int .i64 0, .int .u32 0, .int .u32 0, .int .u32 0, .int .i64 0, .int .i64 0, .bool false, .bool false, .slice none 0 0]
  have hbE : Below w.heap.size w (w.alloc (.cells #[.int .i64 0, .int .u32 0, .int .u32 0, .int .u32 0, .int .i64 0, .int .i64 0, .bool false, .bool false, .slice none 0 0] 52)) := (Below.refl _ _).alloc (Nat.le_refl _) _
  have hea : w.heap.size ≠ a := by have := (hH.inF hH.ka).2; omega
  have hva := h1.valve
  rw [HN.out] at hva
  have hc := h1.blk.cell
  unfold devCells at hc
  go_enter Tryz.func21, Tryz.ntmps21
  go_wp2_with fail
  obtain ⟨e0, He0⟩ : ∃ e, Hid (e = w.heap.size) := ⟨_, Lib.hid rfl⟩
  rw [← He0.out] at hE hea ⊢
  generalize w.alloc (.cells #[.int .i64 0, .int .u32 0, .int .u32 0, .int .u32 0, .int .i64 0, .int .i64 0, .bool false, .bool false, .slice none 0 0] 52) = W0 at *
  refine (valveOutput_any v m.valve N _ W0 hva hN8 hvv).mono ?_
  rintro e W1 ⟨x, rfl, hown, hlen', hb1⟩
  have Hlen := Lib.hid hlen'
  clear hlen'
  have h2 := h1.below hb1
  have hE2 := hE.below hb1 hE.lt
  have hbE2 := hbE.trans (hb1.mono hbE.size)
  have hs0 := hbE.size
  obtain ⟨Ax, cx, rfl⟩ := own_slice hown
  have hb := h2.blk.drew
  have hd := (show DogIs W1.drew d m.p.watch m.since from h2.dog)
  have hv := h2.drew.valve
  have hel0 := hE.lt
  clear hc h1 hE hbE hva
  have huc := hE2.cell
  have huf := hE2.frozen
  have hc := h2.blk.cell
  unfold devCells at hc
  go_wp2_with fail
  go_region_held3 (fun w' => w'.cell? ⟨a, 8, none⟩ = some (.pointer (some ⟨d, 0, none⟩)) ∧ w'.cell? ⟨a, 9, none⟩ = some (.pointer (some ⟨v, 0, none⟩)) ∧ w'.cell? ⟨a, 11, none⟩ = some (.int .i64 m.state) ∧ w'.cell? ⟨a, 12, none⟩ = some (.int .u32 m.session) ∧ w'.cell? ⟨a, 13, none⟩ = some (.int .u32 m.number) ∧ w'.cell? ⟨a, 14, none⟩ = some (.int .u32 m.sent)) (with_reducible (first | exact devS6 hb | exact devS6 (hb.far9 hea) | exact devS6 (h2.blk.far9 hea).drew)) (first
    | (go_at_call 55; refine (dogSince_any d m.p.watch m.since _ hd hsn hwat).mono ?_; rintro e W2 ⟨rfl, rfl⟩)
    | (go_at_call 56; refine (valveLatched_any v m.valve _ _ _ hv).mono ?_; rintro e W2 ⟨rfl, rfl⟩)
    | (go_at_call 57; refine (valveRequest_any v m.valve _ _ _ hv).mono ?_; rintro e W2 ⟨rfl, rfl⟩))
  have hel := hE2.lt
  have hlt := hown.lt
  have hfar : ∀ y, (Value.slice Ax N cx).ownBlock = some y → ¬ y = e0 := fun y hy e => by have := (hlt y hy).1; omega
  have hE3 := (hE2.store9 (a0 := (.int .i64 m.state)) (a1 := (.int .u32 m.session)) (a2 := (.int .u32 m.number)) (a3 := (.int .u32 m.sent)) (a4 := (.int .i64 m.since)) (a5 := (.int .i64 m.valve.latched)) (a6 := (.bool m.valve.request)) (a7 := (.bool m.valve.on)) (a8 := (.slice Ax N cx))).drew
  have hb3 : Below w.heap.size w (((((((((W1.setCell ⟨e0, 0, none⟩ (.int .i64 m.state)).setCell ⟨e0, 1, none⟩ (.int .u32 m.session)).setCell ⟨e0, 2, none⟩ (.int .u32 m.number)).setCell ⟨e0, 3, none⟩ (.int .u32 m.sent)).setCell ⟨e0, 4, none⟩ (.int .i64 m.since)).setCell ⟨e0, 5, none⟩ (.int .i64 m.valve.latched)).setCell ⟨e0, 6, none⟩ (.bool m.valve.request)).setCell ⟨e0, 7, none⟩ (.bool m.valve.on)).setCell ⟨e0, 8, none⟩ (.slice Ax N cx)).drew := (below9 hbE2 (by have := He0.out; omega)).drew
  have hown3 := ownsRow_keep (S := fun x => x = e0) hown ((((((((((Keep.refl (fun x => x = e0) W1).setCell (p := ⟨e0, 0, none⟩) (fun _ => rfl) (.int .i64 m.state)).setCell (p := ⟨e0, 1, none⟩) (fun _ => rfl) (.int .u32 m.session)).setCell (p := ⟨e0, 2, none⟩) (fun _ => rfl) (.int .u32 m.number)).setCell (p := ⟨e0, 3, none⟩) (fun _ => rfl) (.int .u32 m.sent)).setCell (p := ⟨e0, 4, none⟩) (fun _ => rfl) (.int .i64 m.since)).setCell (p := ⟨e0, 5, none⟩) (fun _ => rfl) (.int .i64 m.valve.latched)).setCell (p := ⟨e0, 6, none⟩) (fun _ => rfl) (.bool m.valve.request)).setCell (p := ⟨e0, 7, none⟩) (fun _ => rfl) (.bool m.valve.on)).setCell (p := ⟨e0, 8, none⟩) (fun _ => rfl) (.slice Ax N cx)).drew hfar
  generalize (((((((((W1.setCell ⟨e0, 0, none⟩ (.int .i64 m.state)).setCell ⟨e0, 1, none⟩ (.int .u32 m.session)).setCell ⟨e0, 2, none⟩ (.int .u32 m.number)).setCell ⟨e0, 3, none⟩ (.int .u32 m.sent)).setCell ⟨e0, 4, none⟩ (.int .i64 m.since)).setCell ⟨e0, 5, none⟩ (.int .i64 m.valve.latched)).setCell ⟨e0, 6, none⟩ (.bool m.valve.request)).setCell ⟨e0, 7, none⟩ (.bool m.valve.on)).setCell ⟨e0, 8, none⟩ (.slice Ax N cx)).drew = W3 at *
  clear huc huf hc
  have huc := hE3.cell
  go_wp2_with fail
  have e1 : sm = m.see := Hsm.out
  have e2 : m.see.out = m.valve.output (N : Int) := by unfold DevM.see; rw [HN.out]
  subst e1
  refine bodyPost_ret (v := endVal m.see (.slice Ax N cx)) (by simp [results, Tryz.results21, go_sem, endVal, DevM.see, huc]) rfl ⟨_, rfl, ?_, hb3⟩
  rw [e2, Hlen.out]
  exact own_base hown3 hs0
end Go.Proofs.YtbkkfkbgcklkgaaGreat
