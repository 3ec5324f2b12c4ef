/- The base of the laws, part 27: contracts and plain lemmas, no statement. -/
import Derived.Test.YtlldgfejcjnpkaaGreatBase18
set_option linter.unusedVariables false
/- A device's Reset; a new device. -/
namespace Go.Proofs.YtlldgfejcjnpkaaGreat
open Go.RowKit
set_option maxHeartbeats 10000000
set_option maxRecDepth 100000

theorem DevAt.newCell {B : Nat} {w w' : World} {a mb c c' d v g : Nat} {m : DevM} {κ : Nat → Option Nat} {val : Value} (h : DevAt B w a mb m κ c d v g val) {M' : MemM} {C' : CellM} (hm : MemIs w' mb M' (Of κ 5)) (hk : Keep (Of κ 5) w w') (hc : CellIs w' c' mb C') (hn : w.heap.size ≤ c' ∧ c' < w'.heap.size) :
    DevAt B (w'.setCell ⟨a, 7, none⟩ (.pointer (some ⟨c', 0, none⟩))) a mb { m with m := M', cell := C' } (paint κ 6 w w') c' d v g val := by
  have hz : (w'.setCell ⟨a, 7, none⟩ (.pointer (some ⟨c', 0, none⟩))).heap.size = w'.heap.size := by simp [World.setCell]
  have hk2 : Keep (fun x => x = a) w' (w'.setCell ⟨a, 7, none⟩ (.pointer (some ⟨c', 0, none⟩))) := (Keep.refl (fun x => x = a) w').setCell (p := ⟨a, 7, none⟩) (fun _ => rfl) _
  have hk3 : Keep (fun x => Of κ 5 x ∨ x = a) w (w'.setCell ⟨a, 7, none⟩ (.pointer (some ⟨c', 0, none⟩))) := (hk.mono (fun _ _ h => .inl h)).andThen hk2 (fun _ _ e => .inr e)
  have hS : ∀ t x, t ≠ 5 → t ≠ 0 → Of κ t x → ¬ (Of κ 5 x ∨ x = a) := fun t x h5 h0 hx e => e.elim (hx.ne h5) (fun e => (hx.ne h0) (e ▸ h.ka))
  have hal := (h.inF h.ka).2
  have hb : Blk w' a 132 (devCells m mb c d v g val) := h.blk.keep hk (h.ka.ne (by decide))
  exact {
    blk := by simpa [devCells] using hb.set_ 7 (.pointer (some ⟨c', 0, none⟩))
    dog := Blk.keep h.dog hk3 (hS 1 _ (by decide) (by decide) h.kd)
    valve := h.valve.keep hk3 (fun x => hS 2 x (by decide) (by decide)) (fun x hx => paint_old hx h.lo)
    log := h.log.keep hk3 (fun x => hS 3 x (by decide) (by decide)) (fun x hx => paint_old hx h.lo)
    value := ownsRow_keep h.value hk3 (fun x hx => hS 4 x (by decide) (by decide) (h.kx x hx))
    mem := hm.keep hk2 (fun x hx e => (hx.ne (show 5 ≠ 0 by decide)) (e ▸ h.ka)) (fun x hx => paint_old hx h.lo)
    cell := Blk.keep hc hk2 (by omega)
    ka := paint_old h.ka h.lo
    kd := paint_old h.kd h.lo
    kx := fun x hx => paint_old (h.kx x hx) h.lo
    kc := paint_new hn.1 hn.2
    lo := by rw [hz]; exact paint_lo h.lo h.Ble hk.size }
theorem devReset_any (B a mb : Nat) (m : DevM) (F : Nat → Prop) (n : Int) (w : World) (hI : DevIs B w a mb m F) (hi : m.Inv) (hn : n < 9223372036854775808) :
    Calls Tryz.prog 67 #[.pointer (some ⟨a, 0, none⟩), .int .i64 n] w fun e w' => e = .returned (.int .i64 (m.reset n).2) ∧ DevTo B w a mb (m.reset n).1 F w' := by
  by_cases h0 : n < 0
  · have e1 : m.reset n = (m, 2) := by unfold DevM.reset; rw [if_pos h0]
    rw [e1]
    go_enter Tryz.func67, Tryz.ntmps67
    go_wp2_with fail
    go_ret
    exact ⟨rfl, DevTo.refl hI⟩
  have hfr := devFreshTo_any B a mb m F w hI hi.plaw
  obtain ⟨mm, Hmm⟩ : ∃ mm, Hid (mm = if 0 < n then (m.m.on.arm (n - 1)).1 else m.m.on) := ⟨_, Lib.hid rfl⟩
  have hmo : mm.off = false := by
    rw [Hmm.out]
    split
    · unfold MemM.arm; split <;> rfl
    · rfl
  obtain ⟨q, Hq⟩ : ∃ q, Hid (q = m.reset n) := ⟨_, Lib.hid rfl⟩
  have hq : q = match openM mm m.max with
    | (m', some c, _) => ({ (m.life 1) with m := m', cell := c }, 0)
    | (m', none, e) => ({ (m.life 6) with m := m' }, e) := by rw [Hq.out, Hmm.out]; unfold DevM.reset; rw [if_neg h0]; rfl
  rw [← Hq.out]
  have Hqq := Lib.hid hq
  clear Hq hq
  -- behind the memory's On and Arm: how Open goes on
  have tail : ∀ (W : World), DevTo B w a mb { (m.life 1) with m := mm } F W → ∃ κ c d v g val, DevAt B W a mb { (m.life 1) with m := mm } κ c d v g val ∧ (∀ x, κ x ≠ none → grow F w W x) ∧
      Calls Tryz.prog 47 #[.pointer (some ⟨mb, 0, none⟩), .int .u32 m.max] W.drew fun e w' => MemGo W.drew mb (openM mm m.max).1 (Of κ 5) w' ∧
        match (openM mm m.max).2.1 with
        | some k => ∃ c, e = .returned (.tuple #[.pointer (some ⟨c, 0, none⟩), .int .i64 0]) ∧ (openM mm m.max).2.2 = 0 ∧ CellIs w' c mb k ∧ W.drew.heap.size ≤ c ∧ c < w'.heap.size
        | none => e = .returned (.tuple #[.pointer none, .int .i64 (openM mm m.max).2.2]) := by
    intro W t
    obtain ⟨⟨κ, c, d, v, g, val, h, hF⟩, _⟩ := t.is_
    exact ⟨κ, c, d, v, g, val, h, hF, cellOpen_any mb mm (Of κ 5) m.max W.drew (h.mem.drewN 1) hmo (fun x hx => (h.inF hx).2) hi.mx⟩
  have hone := fun h => openM_none (m := mm) (mx := m.max) h
  have hmx := hi.mx
  by_cases hp : 0 < n
  · have hmm : mm = (m.m.on.arm (n - 1)).1 := by rw [Hmm.out, if_pos hp]
    have hw1 : IntKind.i64.wrap (n - 1) = n - 1 := IntWalk.i64_in _ (by omega)
    clear Hmm hmo
    subst hmm
    generalize openM (m.m.on.arm (n - 1)).1 m.max = r at *
    obtain ⟨m', ko, er⟩ := r
    cases ko with
    | none =>
      have hne := hone rfl
      have ge : (er != 0) = true := by simpa using hne
      clear hone
      go_enter Tryz.func67, Tryz.ntmps67
      go_wp2_with fail
      refine hfr.mono ?_
      rintro e W1 ⟨rfl, t1⟩
      obtain ⟨⟨κ1, c1, d1, v1, g1, val1, h1, hF1⟩, hlo1⟩ := t1.is_
      have hc := h1.blk.cell
      unfold devCells at hc
      go_wp2_with fail
      refine (memOn_any mb _ _ W1 h1.mem).mono ?_
      rintro e W2 ⟨rfl, tm2⟩
      have t2 := DevTo.trans hI t1 (h1.toMem t1.is_ hF1 tm2)
      clear hc
      obtain ⟨⟨κ2, c2, d2, v2, g2, val2, h2, hF2⟩, hlo2⟩ := t2.is_
      have hc := h2.blk.cell
      unfold devCells at hc
      go_wp2_with fail
      refine (memArm_any mb _ _ (n - 1) W2 h2.mem (by omega)).mono ?_
      rintro e W3 ⟨rfl, tm3⟩
      have t3 : DevTo B w a mb { (m.life 1) with m := (m.m.on.arm (n - 1)).1 } F W3 := DevTo.trans hI t2 (h2.toMem t2.is_ hF2 tm3)
      clear hc
      obtain ⟨κ3, c3, d3, v3, g3, val3, h3, hF3, hop⟩ := tail W3 t3
      have hb3 := h3.blk.drew
      have hc := h3.blk.cell
      unfold devCells at hc
      have hmem := h3.mem
      clear tail
      try simp only at hop
      go_wp2_with fail
      go_region_held3 (fun w' => w'.cell? ⟨a, 5, none⟩ = some (.pointer (some ⟨mb, 0, none⟩)) ∧ w'.cell? ⟨a, 6, none⟩ = some (.int .u32 m.max)) (exact ⟨(hb3.cell 5).trans rfl, (hb3.cell 6).trans rfl⟩) (first
        | (go_at_call 47; refine hop.mono ?_; rintro e W4 ⟨tm4, rfl⟩; replace hb3 := hb3.keep tm4.keep (h3.ka.ne (by decide))))
      all_goals
        have h4 := h3.drew.toCell t3.drew.is_ hF3 tm4.is_ (Blk.keep h3.drew.cell tm4.keep (h3.kc.ne (by decide))) (tm4.keep.mono (fun _ _ h => .inl h))
        have T := DevTo.trans hI t3.drew h4
        have hq := Hqq.out
        try simp only at hq
        subst hq
        clear hc
        go_wp2_with fail
        refine (devDown_any B a mb _ _ W4 T.is_ hi.plaw).mono ?_
        rintro e W5 ⟨rfl, t5⟩
        have T5 := DevTo.trans hI T t5
        go_wp2_with fail
        go_ret
        exact ⟨rfl, T5⟩
    | some ko =>
      clear hone
      go_enter Tryz.func67, Tryz.ntmps67
      go_wp2_with fail
      refine hfr.mono ?_
      rintro e W1 ⟨rfl, t1⟩
      obtain ⟨⟨κ1, c1, d1, v1, g1, val1, h1, hF1⟩, hlo1⟩ := t1.is_
      have hc := h1.blk.cell
      unfold devCells at hc
      go_wp2_with fail
      refine (memOn_any mb _ _ W1 h1.mem).mono ?_
      rintro e W2 ⟨rfl, tm2⟩
      have t2 := DevTo.trans hI t1 (h1.toMem t1.is_ hF1 tm2)
      clear hc
      obtain ⟨⟨κ2, c2, d2, v2, g2, val2, h2, hF2⟩, hlo2⟩ := t2.is_
      have hc := h2.blk.cell
      unfold devCells at hc
      go_wp2_with fail
      refine (memArm_any mb _ _ (n - 1) W2 h2.mem (by omega)).mono ?_
      rintro e W3 ⟨rfl, tm3⟩
      have t3 : DevTo B w a mb { (m.life 1) with m := (m.m.on.arm (n - 1)).1 } F W3 := DevTo.trans hI t2 (h2.toMem t2.is_ hF2 tm3)
      clear hc
      obtain ⟨κ3, c3, d3, v3, g3, val3, h3, hF3, hop⟩ := tail W3 t3
      have hb3 := h3.blk.drew
      have hc := h3.blk.cell
      unfold devCells at hc
      have hmem := h3.mem
      clear tail
      try simp only at hop
      go_wp2_with fail
      go_region_held3 (fun w' => w'.cell? ⟨a, 5, none⟩ = some (.pointer (some ⟨mb, 0, none⟩)) ∧ w'.cell? ⟨a, 6, none⟩ = some (.int .u32 m.max)) (exact ⟨(hb3.cell 5).trans rfl, (hb3.cell 6).trans rfl⟩) (first
        | (go_at_call 47; refine hop.mono ?_; rintro e W4 ⟨tm4, c4, rfl, _, hc4, hn4⟩; replace hb3 := hb3.keep tm4.keep (h3.ka.ne (by decide))))
      all_goals
        have hA4 := h3.drew.newCell tm4.is_ tm4.keep hc4 hn4
        have hz4 : (W4.setCell ⟨a, 7, none⟩ (.pointer (some ⟨c4, 0, none⟩))).heap.size = W4.heap.size := by simp [World.setCell]
        have t4 := DevAt.toIs hA4 t3.drew.is_ (fun x hx => (paint_sub (w := W3.drew) (w' := W4) hF3 x hx).imp id (fun hx => by rw [hz4]; exact hx)) ((tm4.keep.mono (fun x _ hx => hF3 x hx.has)).setCell (p := ⟨a, 7, none⟩) (fun _ => t3.is_.Fa) _)
        have T := DevTo.trans hI t3.drew t4
        have hf := hb3.frozen
        have hq := Hqq.out
        try simp only at hq
        subst hq
        clear hc
        have hc := hb3.cell
        unfold devCells at hc
        go_wp2_with fail
        go_ret
        exact ⟨rfl, T⟩
  · have hmm : mm = m.m.on := by rw [Hmm.out, if_neg hp]
    have hn0 : n = 0 := by omega
    subst hn0
    clear Hmm hmo hp h0
    subst hmm
    generalize openM m.m.on m.max = r at *
    obtain ⟨m', ko, er⟩ := r
    cases ko with
    | none =>
      have hne := hone rfl
      have ge : (er != 0) = true := by simpa using hne
      clear hone
      go_enter Tryz.func67, Tryz.ntmps67
      go_wp2_with fail
      refine hfr.mono ?_
      rintro e W1 ⟨rfl, t1⟩
      obtain ⟨⟨κ1, c1, d1, v1, g1, val1, h1, hF1⟩, hlo1⟩ := t1.is_
      have hc := h1.blk.cell
      unfold devCells at hc
      go_wp2_with fail
      refine (memOn_any mb _ _ W1 h1.mem).mono ?_
      rintro e W2 ⟨rfl, tm2⟩
      have t2 := DevTo.trans hI t1 (h1.toMem t1.is_ hF1 tm2)
      clear hc
      have t3 : DevTo B w a mb { (m.life 1) with m := m.m.on } F W2 := t2
      obtain ⟨κ3, c3, d3, v3, g3, val3, h3, hF3, hop⟩ := tail W2 t3
      have hb3 := h3.blk.drew
      have hc := h3.blk.cell
      unfold devCells at hc
      have hmem := h3.mem
      clear tail
      try simp only at hop
      go_wp2_with fail
      go_region_held3 (fun w' => w'.cell? ⟨a, 5, none⟩ = some (.pointer (some ⟨mb, 0, none⟩)) ∧ w'.cell? ⟨a, 6, none⟩ = some (.int .u32 m.max)) (exact ⟨(hb3.cell 5).trans rfl, (hb3.cell 6).trans rfl⟩) (first
        | (go_at_call 47; refine hop.mono ?_; rintro e W4 ⟨tm4, rfl⟩; replace hb3 := hb3.keep tm4.keep (h3.ka.ne (by decide))))
      all_goals
        have h4 := h3.drew.toCell t3.drew.is_ hF3 tm4.is_ (Blk.keep h3.drew.cell tm4.keep (h3.kc.ne (by decide))) (tm4.keep.mono (fun _ _ h => .inl h))
        have T := DevTo.trans hI t3.drew h4
        have hq := Hqq.out
        try simp only at hq
        subst hq
        clear hc
        go_wp2_with fail
        refine (devDown_any B a mb _ _ W4 T.is_ hi.plaw).mono ?_
        rintro e W5 ⟨rfl, t5⟩
        have T5 := DevTo.trans hI T t5
        go_wp2_with fail
        go_ret
        exact ⟨rfl, T5⟩
    | some ko =>
      clear hone
      go_enter Tryz.func67, Tryz.ntmps67
      go_wp2_with fail
      refine hfr.mono ?_
      rintro e W1 ⟨rfl, t1⟩
      obtain ⟨⟨κ1, c1, d1, v1, g1, val1, h1, hF1⟩, hlo1⟩ := t1.is_
      have hc := h1.blk.cell
      unfold devCells at hc
      go_wp2_with fail
      refine (memOn_any mb _ _ W1 h1.mem).mono ?_
      rintro e W2 ⟨rfl, tm2⟩
      have t2 := DevTo.trans hI t1 (h1.toMem t1.is_ hF1 tm2)
      clear hc
      have t3 : DevTo B w a mb { (m.life 1) with m := m.m.on } F W2 := t2
      obtain ⟨κ3, c3, d3, v3, g3, val3, h3, hF3, hop⟩ := tail W2 t3
      have hb3 := h3.blk.drew
      have hc := h3.blk.cell
      unfold devCells at hc
      have hmem := h3.mem
      clear tail
      try simp only at hop
      go_wp2_with fail
      go_region_held3 (fun w' => w'.cell? ⟨a, 5, none⟩ = some (.pointer (some ⟨mb, 0, none⟩)) ∧ w'.cell? ⟨a, 6, none⟩ = some (.int .u32 m.max)) (exact ⟨(hb3.cell 5).trans rfl, (hb3.cell 6).trans rfl⟩) (first
        | (go_at_call 47; refine hop.mono ?_; rintro e W4 ⟨tm4, c4, rfl, _, hc4, hn4⟩; replace hb3 := hb3.keep tm4.keep (h3.ka.ne (by decide))))
      all_goals
        have hA4 := h3.drew.newCell tm4.is_ tm4.keep hc4 hn4
        have hz4 : (W4.setCell ⟨a, 7, none⟩ (.pointer (some ⟨c4, 0, none⟩))).heap.size = W4.heap.size := by simp [World.setCell]
        have t4 := DevAt.toIs hA4 t3.drew.is_ (fun x hx => (paint_sub (w := W2.drew) (w' := W4) hF3 x hx).imp id (fun hx => by rw [hz4]; exact hx)) ((tm4.keep.mono (fun x _ hx => hF3 x hx.has)).setCell (p := ⟨a, 7, none⟩) (fun _ => t3.is_.Fa) _)
        have T := DevTo.trans hI t3.drew t4
        have hf := hb3.frozen
        have hq := Hqq.out
        try simp only at hq
        subst hq
        clear hc
        have hc := hb3.cell
        unfold devCells at hc
        go_wp2_with fail
        go_ret
        exact ⟨rfl, T⟩
end Go.Proofs.YtlldgfejcjnpkaaGreat
/- device.New; a nil device. -/
namespace Go.Proofs.YtlldgfejcjnpkaaGreat
open Go.RowKit
set_option maxHeartbeats 10000000
set_option maxRecDepth 100000

theorem devReceive_nil (A : Option Addr) (n c : Nat) (w : World) : Calls Tryz.prog 20 #[.pointer none, .slice A n c] w fun e w' => e = .returned (.tuple #[.slice none 0 0, .int .i64 1]) ∧ w' = w := by
  go_enter Tryz.func20, Tryz.ntmps20
  go_wp2_with fail
  refine bodyPost_ret (v := .tuple #[.slice none 0 0, .int .i64 1]) (by simp [results, Tryz.results20, go_sem]) rfl ⟨rfl, rfl⟩
theorem devWrite_nil (A : Option Addr) (n c : Nat) (h : Bool) (w : World) : Calls Tryz.prog 16 #[.pointer none, .slice A n c, .bool h] w fun e w' => e = .returned (.int .i64 1) ∧ w' = w := by
  go_enter Tryz.func16, Tryz.ntmps16
  go_wp2_with fail
  go_ret
  exact ⟨rfl, rfl⟩
theorem devTick_nil (n : Int) (w : World) : Calls Tryz.prog 33 #[.pointer none, .int .i64 n] w fun e w' => e = .returned (.int .i64 1) ∧ w' = w := by
  go_enter Tryz.func33, Tryz.ntmps33
  go_wp2_with fail
  go_ret
  exact ⟨rfl, rfl⟩
theorem devAck_nil (w : World) : Calls Tryz.prog 65 #[.pointer none] w fun e w' => e = .returned (.int .i64 1) ∧ w' = w := by
  go_enter Tryz.func65, Tryz.ntmps65
  go_wp2_with fail
  go_ret
  exact ⟨rfl, rfl⟩
theorem devReset_nil (n : Int) (w : World) : Calls Tryz.prog 67 #[.pointer none, .int .i64 n] w fun e w' => e = .returned (.int .i64 1) ∧ w' = w := by
  go_enter Tryz.func67, Tryz.ntmps67
  go_wp2_with fail
  go_ret
  exact ⟨rfl, rfl⟩
theorem devCode_nil (w : World) : Calls Tryz.prog 82 #[.pointer none] w fun e w' => e = .returned (.int .u32 0) ∧ w' = w := by
  go_enter Tryz.func82, Tryz.ntmps82
  go_wp2_with fail
  go_ret
  exact ⟨rfl, rfl⟩
theorem devSee_nil (w : World) : Calls Tryz.prog 22 #[.pointer none] w fun e w' => e = .returned (endVal ⟨0, 0, 0, 0, 0, 0, false, false, []⟩ (.slice none 0 0)) ∧ Below w.heap.size w w' := by
  go_enter Tryz.func22, Tryz.ntmps22
  go_wp2_with fail
  refine bodyPost_ret (v := endVal ⟨0, 0, 0, 0, 0, 0, false, false, []⟩ (.slice none 0 0)) (by simp [results, Tryz.results22, go_sem, endVal]) rfl ⟨rfl, ?_⟩
  exact (Below.refl _ _).alloc (Nat.le_refl _) _
theorem cellOpen_nil (mx : Int) (w : World) : Calls Tryz.prog 47 #[.pointer none, .int .u32 mx] w fun e w' => e = .returned (.tuple #[.pointer none, .int .i64 1]) ∧ w' = w := by
  go_enter Tryz.func47, Tryz.ntmps47
  go_wp2_with fail
  refine bodyPost_ret (v := .tuple #[.pointer none, .int .i64 1]) (by simp [results, Tryz.results47, go_sem]) rfl ⟨rfl, rfl⟩
/-- No memory. -/
theorem devNew_nil (p : ParM) (mx : Int) (w : World) : Calls Tryz.prog 12 #[parVal p, .pointer none, .int .u32 mx] w fun e w' => e = .returned (.tuple #[.pointer none, .int .i64 (if p.lawful then 1 else 90)]) ∧ Below w.heap.size w w' := by
  have hchk := paramCheck_any p
  unfold parVal at *
  cases hl : p.lawful with
  | false =>
    rw [hl] at hchk
    simp only [Bool.false_eq_true, if_false] at hchk ⊢
    go_enter Tryz.func12, Tryz.ntmps12
    go_wp2_with fail
    refine (hchk _).mono ?_
    rintro e w1 ⟨rfl, hb1⟩
    go_wp2_with fail
    refine bodyPost_ret (v := .tuple #[.pointer none, .int .i64 90]) (by simp [results, Tryz.results12, go_sem]) rfl ⟨rfl, ?_⟩
    exact ((Below.refl _ _).alloc (Nat.le_refl _) _).trans (hb1.mono (by simp))
  | true =>
    rw [hl] at hchk
    simp only [if_true] at hchk ⊢
    go_enter Tryz.func12, Tryz.ntmps12
    go_wp2_with fail
    refine (hchk _).mono ?_
    rintro e w1 ⟨rfl, hb1⟩
    go_wp2_with fail
    refine (cellOpen_nil mx _).mono ?_
    rintro e w2 ⟨rfl, rfl⟩
    go_wp2_with fail
    refine bodyPost_ret (v := .tuple #[.pointer none, .int .i64 1]) (by simp [results, Tryz.results12, go_sem]) rfl ⟨rfl, ?_⟩
    exact ((Below.refl _ _).alloc (Nat.le_refl _) _).trans (hb1.mono (by simp))
theorem parS {w : World} {e0 : Nat} {t : TypeId} {x0 x1 x2 x3 x4 : Value} (h : Blk w e0 t #[x0, x1, x2, x3, x4]) :
    w.cell? ⟨e0, 0, none⟩ = some x0 ∧ w.cell? ⟨e0, 1, none⟩ = some x1 ∧ w.cell? ⟨e0, 2, none⟩ = some x2 ∧ w.cell? ⟨e0, 3, none⟩ = some x3 ∧ w.cell? ⟨e0, 4, none⟩ = some x4 :=
  ⟨(h.cell 0).trans rfl, (h.cell 1).trans rfl, (h.cell 2).trans rfl, (h.cell 3).trans rfl, (h.cell 4).trans rfl⟩
/-- What New answers, over a memory. -/
def NewAns (B : Nat) (w : World) (mb : Nat) (FM : Nat → Prop) (r : MemM × Option DevM × Int) (e : Ending) (w' : World) : Prop :=
  Keep FM w w' ∧ match r.2.1 with
  | some d => r.2.2 = 0 ∧ ∃ a F, e = .returned (.tuple #[.pointer (some ⟨a, 0, none⟩), .int .i64 0]) ∧ DevIs B w' a mb d F ∧ ∀ x, F x → FM x ∨ w.heap.size ≤ x
  | none => e = .returned (.tuple #[.pointer none, .int .i64 r.2.2]) ∧ MemIs w' mb r.1 FM
theorem devNew_any (B mb : Nat) (p : ParM) (M : MemM) (FM : Nat → Prop) (mx : Int) (w : World) (hM : MemIs w mb M FM) (ho : M.off = false) (hlo : ∀ x, FM x → B ≤ x ∧ x < w.heap.size) (hB : B ≤ w.heap.size) (hmx : 0 ≤ mx ∧ mx < 4294967296) :
    Calls Tryz.prog 12 #[parVal p, .pointer (some ⟨mb, 0, none⟩), .int .u32 mx] w fun e w' => NewAns B w mb FM (DevM.new p M mx) e w' := by
  have hchk := paramCheck_any p
  unfold parVal at *
  cases hl : p.lawful with
  | false =>
    have e1 : DevM.new p M mx = (M, none, 90) := by unfold DevM.new; rw [hl]; rfl
    rw [e1]
    rw [hl] at hchk
    simp only [Bool.false_eq_true, if_false] at hchk
    unfold NewAns
    go_enter Tryz.func12, Tryz.ntmps12
    go_wp2_with fail
    refine (hchk _).mono ?_
    rintro e w1 ⟨rfl, hb1⟩
    have hb : Below w.heap.size w w1 := ((Below.refl _ _).alloc (Nat.le_refl _) _).trans (hb1.mono (by simp))
    go_wp2_with fail
    exact bodyPost_ret (v := .tuple #[.pointer none, .int .i64 90]) (by simp [results, Tryz.results12, go_sem]) rfl ⟨Keep.of_below hb, rfl, hM.below hb⟩
  | true =>
    have hop := fun W h => cellOpen_any mb M FM mx W h ho
    obtain ⟨q, Hq⟩ : ∃ q, Hid (q = DevM.new p M mx) := ⟨_, Lib.hid rfl⟩
    have hq : q = match openM M mx with
      | (m', some c, _) => (m', some { p, m := m', max := mx, cell := c, value := List.replicate p.inn.toNat 0 }, 0)
      | (m', none, e) => (m', none, e) := by rw [Hq.out]; unfold DevM.new; rw [hl]; rfl
    rw [← Hq.out]
    have Hqq := Lib.hid hq
    have hone := fun h => openM_none (m := M) (mx := mx) h
    clear Hq hq
    rw [hl] at hchk
    simp only [if_true] at hchk
    generalize openM M mx = r at *
    obtain ⟨m', ko, er⟩ := r
    unfold NewAns
    cases ko with
    | none =>
      have hne := hone rfl
      have ge : (er != 0) = true := by simpa using hne
      have hq := Hqq.out
      try simp only at hq
      subst hq
      clear hone
      go_enter Tryz.func12, Tryz.ntmps12
      go_wp2_with fail
      refine (hchk _).mono ?_
      rintro e w1 ⟨rfl, hb1⟩
      have hb : Below w.heap.size w w1 := ((Below.refl _ _).alloc (Nat.le_refl _) _).trans (hb1.mono (by simp))
      go_wp2_with fail
      refine (hop w1 (hM.below hb) (fun x hx => by have := hlo x hx; have := hb.size; omega) hmx).mono ?_
      rintro e w2 ⟨t2, rfl⟩
      go_wp2_with fail
      exact bodyPost_ret (v := .tuple #[.pointer none, .int .i64 er]) (by simp [results, Tryz.results12, go_sem]) rfl ⟨(Keep.of_below hb).andThen t2.keep (fun _ _ h => h), rfl, t2.is_⟩
    | some ko =>
      have hq := Hqq.out
      try simp only at hq
      subst hq
      clear hone
      go_enter Tryz.func12, Tryz.ntmps12
      go_wp2_with fail
      refine (hchk _).mono ?_
      rintro e w1 ⟨rfl, hb1⟩
      have hP := (Blk.new w 36 #[.int .u32 p.code, .int .i64 p.out, .int .i64 p.inn, .int .i64 p.watch, .int .u32 p.count]).below hb1 (by simp)
      have hb : Below w.heap.size w w1 := ((Below.refl _ _).alloc (Nat.le_refl _) _).trans (hb1.mono (by simp))
      go_wp2_with fail
      refine (hop w1 (hM.below hb) (fun x hx => by have := hlo x hx; have := hb.size; omega) hmx).mono ?_
      rintro e w2 ⟨t2, c2, rfl, _, hc2, hn2⟩
      have hs1 := hb.size
      have hP2 := (hP.keep t2.keep (fun hx => by have := hlo _ hx; omega)).drew
      have hM2 : MemIs w2.drew mb m' FM := t2.is_.drewN 1
      have hC2 : CellIs w2.drew c2 mb ko := hc2
      have hs2 : w1.heap.size ≤ w2.drew.heap.size := t2.keep.size
      have hn2' : w1.heap.size ≤ c2 ∧ c2 < w2.drew.heap.size := hn2
      have hk2 : Keep FM w w2.drew := ((Keep.of_below hb).andThen t2.keep (fun _ _ h => h)).drew
      clear hop hn2
      have hPl := hP2.lt
      go_wp2_with fail
      go_region_held3 (fun w' => w'.cell? ⟨w.heap.size, 0, none⟩ = some (.int .u32 p.code) ∧ w'.cell? ⟨w.heap.size, 1, none⟩ = some (.int .i64 p.out) ∧ w'.cell? ⟨w.heap.size, 2, none⟩ = some (.int .i64 p.inn) ∧ w'.cell? ⟨w.heap.size, 3, none⟩ = some (.int .i64 p.watch) ∧ w'.cell? ⟨w.heap.size, 4, none⟩ = some (.int .u32 p.count)) (with_reducible (first | exact parS hP2 | exact parS (hP2.alloc _))) (first
        | (go_at_call 48; refine (diagNew_any _).mono ?_; rintro e W ⟨g, rfl, hD, hbn⟩; replace hP2 := hP2.below hbn hPl))
      have hs3 : w2.drew.heap.size ≤ W.heap.size := hbn.size
      classical
      have hpre : DevPre B (W.alloc (.cells #[.int .u32 p.code, .int .i64 p.out, .int .i64 p.inn, .int .i64 p.watch, .int .u32 p.count, .pointer (some ⟨mb, 0, none⟩), .int .u32 mx, .pointer (some ⟨c2, 0, none⟩), .pointer none, .pointer none, .pointer (some ⟨g, 0, none⟩), .int .i64 0, .int .u32 0, .int .u32 0, .int .u32 0, .int .i64 0, .slice none 0 0, .bool false] 132)) W.heap.size mb p mx [] m' ko
          (fun x => if x = W.heap.size then some 0 else if x = c2 then some 6 else if w2.drew.heap.size ≤ x ∧ x < W.heap.size then some 3 else if FM x then some 5 else none) c2 g (.pointer none) (.pointer none) (.int .i64 0) (.int .u32 0) (.int .u32 0) (.int .u32 0) (.int .i64 0) (.slice none 0 0) (.bool false) := by
        have hkA : Keep (fun _ => False) W (W.alloc (.cells #[.int .u32 p.code, .int .i64 p.out, .int .i64 p.inn, .int .i64 p.watch, .int .u32 p.count, .pointer (some ⟨mb, 0, none⟩), .int .u32 mx, .pointer (some ⟨c2, 0, none⟩), .pointer none, .pointer none, .pointer (some ⟨g, 0, none⟩), .int .i64 0, .int .u32 0, .int .u32 0, .int .u32 0, .int .i64 0, .slice none 0 0, .bool false] 132)) := (Keep.refl _ W).alloc _
        refine {
          blk := Blk.new W _ _
          log := hD.keep hkA (fun _ _ h => h) (fun x hx => ?_)
          mem := (hM2.below hbn).keep hkA (fun _ _ h => h) (fun x hx => ?_)
          cell := (Blk.below hC2 hbn hn2'.2).alloc _
          ka := by show (if _ then _ else _) = _; rw [if_pos rfl]
          kc := by show (if _ then _ else _) = _; rw [if_neg (by omega), if_pos rfl]
          lo := fun x hx => ?_ }
        · show (if _ then _ else _) = _
          rw [if_neg (by omega), if_neg (by omega), if_pos hx]
        · have := hlo x hx
          show (if _ then _ else _) = _
          rw [if_neg (by omega), if_neg (by omega), if_neg (by omega), if_pos hx]
        · simp only [World.size_alloc]
          by_cases e0 : x = W.heap.size
          · omega
          · rw [if_neg e0] at hx
            by_cases e1 : x = c2
            · omega
            · rw [if_neg e1] at hx
              by_cases e2 : w2.drew.heap.size ≤ x ∧ x < W.heap.size
              · omega
              · rw [if_neg e2] at hx
                by_cases e3 : FM x
                · have := hlo x e3; omega
                · rw [if_neg e3] at hx; exact absurd rfl hx
      go_wp2_with fail
      refine (devFresh_any B W.heap.size mb p mx [] m' ko _ c2 g _ _ _ _ _ _ _ _ _ _ hl hpre).mono ?_
      rintro e W3 ⟨rfl, ⟨κ', d, v, val, h', hF'⟩, hk3⟩
      go_wp2_with fail
      have hs4 := hk3.size
      simp only [World.size_alloc] at hs4
      have hkW : Keep FM w W3 := (((hk2.andThen (S' := fun _ => False) (Keep.of_below hbn) (fun _ _ h => h.elim)).alloc _).andThen hk3 (fun x hx e => by have := hk2.size; omega))
      refine bodyPost_ret (v := .tuple #[.pointer (some ⟨W.heap.size, 0, none⟩), .int .i64 0]) (by simp [results, Tryz.results12, go_sem]) rfl ⟨hkW, trivial, W.heap.size, fun x => κ' x ≠ none, rfl, DevIs.of h' (fun _ h => h) h'.lo, fun x hx => ?_⟩
      rcases hF' x hx with hx | hx
      · by_cases e0 : x = W.heap.size
        · exact .inr (by omega)
        · rw [if_neg e0] at hx
          by_cases e1 : x = c2
          · exact .inr (by omega)
          · rw [if_neg e1] at hx
            by_cases e2 : w2.drew.heap.size ≤ x ∧ x < W.heap.size
            · exact .inr (by omega)
            · rw [if_neg e2] at hx
              by_cases e3 : FM x
              · exact .inl e3
              · rw [if_neg e3] at hx; exact absurd rfl hx
      · exact .inr (by have := hk2.size; simp only [World.size_alloc] at hx; omega)
end Go.Proofs.YtlldgfejcjnpkaaGreat
