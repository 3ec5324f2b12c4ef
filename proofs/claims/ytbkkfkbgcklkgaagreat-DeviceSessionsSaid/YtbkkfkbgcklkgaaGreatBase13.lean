/- The base of the laws, part 13: contracts and plain lemmas, no statement. -/
import Derived.Test.YtbkkfkbgcklkgaaGreatBase12
/- A device's Reset; a new device. -/
namespace Go.Proofs.YtbkkfkbgcklkgaaGreat
open Go.RowKit
set_option maxHeartbeats 10000000
set_option maxRecDepth 100000

theorem DevAt.newCell {B : Nat} {w w' : World} {a mb c c' d v g : Nat} {m : DevM} {κ : Nat → Option Nat} {val : Value} (h : DevAt B w a mb m κ c d v g val) {M' : MemM} {C' : CellM} (hm : MemIs w' mb M' (Of κ 5)) (hk : Keep (Of κ 5) w w') (hc : CellIs w' c' mb C') (hn : w.heap.size ≤ c' ∧ c' < w'.heap.size) :
    DevAt B (w'.setCell ⟨a, 7, none⟩ (.pointer (some ⟨c', 0, none⟩))) a mb { m with m := M', cell := C' } (paint κ 6 w w') c' d v g val := by
  have hz : (w'.setCell ⟨a, 7, none⟩ (.pointer (some ⟨c', 0, none⟩))).heap.size = w'.heap.size := by simp [World.setCell]
  have hk2 : Keep (fun x => x = a) w' (w'.setCell ⟨a, 7, none⟩ (.pointer (some ⟨c', 0, none⟩))) := (Keep.refl (fun x => x = a) w').setCell (p := ⟨a, 7, none⟩) (fun _ => rfl) _
  have hk3 : Keep (fun x => Of κ 5 x ∨ x = a) w (w'.setCell ⟨a, 7, none⟩ (.pointer (some ⟨c', 0, none⟩))) := (hk.mono (fun _ _ h => .inl h)).andThen hk2 (fun _ _ e => .inr e)
  have hS : ∀ t x, t ≠ 5 → t ≠ 0 → Of κ t x → ¬ (Of κ 5 x ∨ x = a) := fun t x h5 h0 hx e => e.elim (hx.ne h5) (fun e => (hx.ne h0) (e ▸ h.ka))
  have hal := (h.inF h.ka).2
  have hb : Blk w' a 109 (devCells m mb c d v g val) := h.blk.keep hk (h.ka.ne (by decide))
  exact {
    blk := by simpa [devCells] using hb.set_ 7 (.pointer (some ⟨c', 0, none⟩))
    dog := Blk.keep h.dog hk3 (hS 1 _ (by decide) (by decide) h.kd)
    valve := h.valve.keep hk3 (fun x => hS 2 x (by decide) (by decide)) (fun x hx => paint_old hx h.lo)
    log := h.log.keep hk3 (fun x => hS 3 x (by decide) (by decide)) (fun x hx => paint_old hx h.lo)
    value := ownsRow_keep h.value hk3 (fun x hx => hS 4 x (by decide) (by decide) (h.kx x hx))
    mem := hm.keep hk2 (fun x hx e => (hx.ne (show 5 ≠ 0 by decide)) (e ▸ h.ka)) (fun x hx => paint_old hx h.lo)
    cell := Blk.keep hc hk2 (by omega)
    ka := paint_old h.ka h.lo
    kd := paint_old h.kd h.lo
    kx := fun x hx => paint_old (h.kx x hx) h.lo
    kc := paint_new hn.1 hn.2
    lo := by rw [hz]; exact paint_lo h.lo h.Ble hk.size }
theorem devReset_any (B a mb : Nat) (m : DevM) (F : Nat → Prop) (n : Int) (w : World) (hI : DevIs B w a mb m F) (hi : m.Inv) (hn : n < 9223372036854775808) :
    Calls Tryz.prog 31 #[.pointer (some ⟨a, 0, none⟩), .int .i64 n] w fun e w' => e = .returned (.int .i64 (m.reset n).2) ∧ DevTo B w a mb (m.reset n).1 F w' := by
  by_cases h0 : n < 0
  · have e1 : m.reset n = (m, 2) := by unfold DevM.reset; rw [if_pos h0]
    rw [e1]
    go_enter Tryz.func31, Tryz.ntmps31
    go_wp2_with fail
    go_ret
    exact ⟨rfl, DevTo.refl hI⟩
  have hfr := devFreshTo_any B a mb m F w hI hi.plaw
  obtain ⟨mm, Hmm⟩ : ∃ mm, Hid (mm = if 0 < n then (m.m.on.arm (n - 1)).1 else m.m.on) := ⟨_, Lib.hid rfl⟩
  have hmo : mm.off = false := by
    rw [Hmm.out]
    split
    · unfold MemM.arm; split <;> rfl
    · rfl
  obtain ⟨q, Hq⟩ : ∃ q, Hid (q = m.reset n) := ⟨_, Lib.hid rfl⟩
  have hq : q = match openM mm m.max with
    | (m', some c, _) => ({ (m.life 1) with m := m', cell := c }, 0)
    | (m', none, e) => ({ (m.life 6) with m := m' }, e) := by rw [Hq.out, Hmm.out]; unfold DevM.reset; rw [if_neg h0]; rfl
  rw [← Hq.out]
  have Hqq := Lib.hid hq
  clear Hq hq
  -- behind the memory's On and Arm: how Open goes on
  have tail : ∀ (W : World), DevTo B w a mb { (m.life 1) with m := mm } F W → ∃ κ c d v g val, DevAt B W a mb { (m.life 1) with m := mm } κ c d v g val ∧ (∀ x, κ x ≠ none → grow F w W x) ∧
      Calls Tryz.prog 44 #[.pointer (some ⟨mb, 0, none⟩), .int .u32 m.max] W.drew fun e w' => MemGo W.drew mb (openM mm m.max).1 (Of κ 5) w' ∧
        match (openM mm m.max).2.1 with
        | some k => ∃ c, e = .returned (.tuple #[.pointer (some ⟨c, 0, none⟩), .int .i64 0]) ∧ (openM mm m.max).2.2 = 0 ∧ CellIs w' c mb k ∧ W.drew.heap.size ≤ c ∧ c < w'.heap.size
        | none => e = .returned (.tuple #[.pointer none, .int .i64 (openM mm m.max).2.2]) := by
    intro W t
    obtain ⟨⟨κ, c, d, v, g, val, h, hF⟩, _⟩ := t.is_
    exact ⟨κ, c, d, v, g, val, h, hF, cellOpen_any mb mm (Of κ 5) m.max W.drew (h.mem.drewN 1) hmo (fun x hx => (h.inF hx).2) hi.mx⟩
  have hone := fun h => openM_none (m := mm) (mx := m.max) h
  have hmx := hi.mx
  by_cases hp : 0 < n
  · have hmm : mm = (m.m.on.arm (n - 1)).1 := by rw [Hmm.out, if_pos hp]
    have hw1 : IntKind.i64.wrap (n - 1) = n - 1 := IntWalk.i64_in _ (by omega)
    clear Hmm hmo
    subst hmm
    generalize openM (m.m.on.arm (n - 1)).1 m.max = r at *
    obtain ⟨m', ko, er⟩ := r
    cases ko with
    | none =>
      have hne := hone rfl
      have ge : (er != 0) = true := by simpa using hne
      clear hone
      go_enter Tryz.func31, Tryz.ntmps31
      go_wp2_with fail
      refine hfr.mono ?_
      rintro e W1 ⟨rfl, t1⟩
      obtain ⟨⟨κ1, c1, d1, v1, g1, val1, h1, hF1⟩, hlo1⟩ := t1.is_
      have hc := h1.blk.cell
      unfold devCells at hc
      go_wp2_with fail
      refine (memOn_any mb _ _ W1 h1.mem).mono ?_
      rintro e W2 ⟨rfl, tm2⟩
      have t2 := DevTo.trans hI t1 (h1.toMem t1.is_ hF1 tm2)
      clear hc
      obtain ⟨⟨κ2, c2, d2, v2, g2, val2, h2, hF2⟩, hlo2⟩ := t2.is_
      have hc := h2.blk.cell
      unfold devCells at hc
      go_wp2_with fail
      refine (memArm_any mb _ _ (n - 1) W2 h2.mem (by omega)).mono ?_
      rintro e W3 ⟨rfl, tm3⟩
      have t3 : DevTo B w a mb { (m.life 1) with m := (m.m.on.arm (n - 1)).1 } F W3 := DevTo.trans hI t2 (h2.toMem t2.is_ hF2 tm3)
      clear hc
      obtain ⟨κ3, c3, d3, v3, g3, val3, h3, hF3, hop⟩ := tail W3 t3
      have hb3 := h3.blk.drew
      have hc := h3.blk.cell
      unfold devCells at hc
      have hmem := h3.mem
      clear tail
      try simp only at hop
      go_wp2_with fail
      go_region_held3 (fun w' => w'.cell? ⟨a, 5, none⟩ = some (.pointer (some ⟨mb, 0, none⟩)) ∧ w'.cell? ⟨a, 6, none⟩ = some (.int .u32 m.max)) (exact ⟨(hb3.cell 5).trans rfl, (hb3.cell 6).trans rfl⟩) (first
        | (go_at_call 44; refine hop.mono ?_; rintro e W4 ⟨tm4, rfl⟩; replace hb3 := hb3.keep tm4.keep (h3.ka.ne (by decide))))
      all_goals
        have h4 := h3.drew.toCell t3.drew.is_ hF3 tm4.is_ (Blk.keep h3.drew.cell tm4.keep (h3.kc.ne (by decide))) (tm4.keep.mono (fun _ _ h => .inl h))
        have T := DevTo.trans hI t3.drew h4
        have hq := Hqq.out
        try simp only at hq
        subst hq
        clear hc
        go_wp2_with fail
        refine (devDown_any B a mb _ _ W4 T.is_ hi.plaw).mono ?_
        rintro e W5 ⟨rfl, t5⟩
        have T5 := DevTo.trans hI T t5
        go_wp2_with fail
        go_ret
        exact ⟨rfl, T5⟩
    | some ko =>
      clear hone
      go_enter Tryz.func31, Tryz.ntmps31
      go_wp2_with fail
      refine hfr.mono ?_
      rintro e W1 ⟨rfl, t1⟩
      obtain ⟨⟨κ1, c1, d1, v1, g1, val1, h1, hF1⟩, hlo1⟩ := t1.is_
      have hc := h1.blk.cell
      unfold devCells at hc
      go_wp2_with fail
      refine (memOn_any mb _ _ W1 h1.mem).mono ?_
      rintro e W2 ⟨rfl, tm2⟩
      have t2 := DevTo.trans hI t1 (h1.toMem t1.is_ hF1 tm2)
      clear hc
      obtain ⟨⟨κ2, c2, d2, v2, g2, val2, h2, hF2⟩, hlo2⟩ := t2.is_
      have hc := h2.blk.cell
      unfold devCells at hc
      go_wp2_with fail
      refine (memArm_any mb _ _ (n - 1) W2 h2.mem (by omega)).mono ?_
      rintro e W3 ⟨rfl, tm3⟩
      have t3 : DevTo B w a mb { (m.life 1) with m := (m.m.on.arm (n - 1)).1 } F W3 := DevTo.trans hI t2 (h2.toMem t2.is_ hF2 tm3)
      clear hc
      obtain ⟨κ3, c3, d3, v3, g3, val3, h3, hF3, hop⟩ := tail W3 t3
      have hb3 := h3.blk.drew
      have hc := h3.blk.cell
      unfold devCells at hc
      have hmem := h3.mem
      clear tail
      try simp only at hop
      go_wp2_with fail
      go_region_held3 (fun w' => w'.cell? ⟨a, 5, none⟩ = some (.pointer (some ⟨mb, 0, none⟩)) ∧ w'.cell? ⟨a, 6, none⟩ = some (.int .u32 m.max)) (exact ⟨(hb3.cell 5).trans rfl, (hb3.cell 6).trans rfl⟩) (first
        | (go_at_call 44; refine hop.mono ?_; rintro e W4 ⟨tm4, c4, rfl, _, hc4, hn4⟩; replace hb3 := hb3.keep tm4.keep (h3.ka.ne (by decide))))
      all_goals
        have hA4 := h3.drew.newCell tm4.is_ tm4.keep hc4 hn4
        have hz4 : (W4.setCell ⟨a, 7, none⟩ (.pointer (some ⟨c4, 0, none⟩))).heap.size = W4.heap.size := by simp [World.setCell]
        have t4 := DevAt.toIs hA4 t3.drew.is_ (fun x hx => (paint_sub (w := W3.drew) (w' := W4) hF3 x hx).imp id (fun hx => by rw [hz4]; exact hx)) ((tm4.keep.mono (fun x _ hx => hF3 x hx.has)).setCell (p := ⟨a, 7, none⟩) (fun _ => t3.is_.Fa) _)
        have T := DevTo.trans hI t3.drew t4
        have hf := hb3.frozen
        have hq := Hqq.out
        try simp only at hq
        subst hq
        clear hc
        have hc := hb3.cell
        unfold devCells at hc
        go_wp2_with fail
        go_ret
        exact ⟨rfl, T⟩
  · have hmm : mm = m.m.on := by rw [Hmm.out, if_neg hp]
    have hn0 : n = 0 := by omega
    subst hn0
    clear Hmm hmo hp h0
    subst hmm
    generalize openM m.m.on m.max = r at *
    obtain ⟨m', ko, er⟩ := r
    cases ko with
    | none =>
      have hne := hone rfl
      have ge : (er != 0) = true := by simpa using hne
      clear hone
      go_enter Tryz.func31, Tryz.ntmps31
      go_wp2_with fail
      refine hfr.mono ?_
      rintro e W1 ⟨rfl, t1⟩
      obtain ⟨⟨κ1, c1, d1, v1, g1, val1, h1, hF1⟩, hlo1⟩ := t1.is_
      have hc := h1.blk.cell
      unfold devCells at hc
      go_wp2_with fail
      refine (memOn_any mb _ _ W1 h1.mem).mono ?_
      rintro e W2 ⟨rfl, tm2⟩
      have t2 := DevTo.trans hI t1 (h1.toMem t1.is_ hF1 tm2)
      clear hc
      have t3 : DevTo B w a mb { (m.life 1) with m := m.m.on } F W2 := t2
      obtain ⟨κ3, c3, d3, v3, g3, val3, h3, hF3, hop⟩ := tail W2 t3
      have hb3 := h3.blk.drew
      have hc := h3.blk.cell
      unfold devCells at hc
      have hmem := h3.mem
      clear tail
      try simp only at hop
      go_wp2_with fail
      go_region_held3 (fun w' => w'.cell? ⟨a, 5, none⟩ = some (.pointer (some ⟨mb, 0, none⟩)) ∧ w'.cell? ⟨a, 6, none⟩ = some (.int .u32 m.max)) (exact ⟨(hb3.cell 5).trans rfl, (hb3.cell 6).trans rfl⟩) (first
        | (go_at_call 44; refine hop.mono ?_; rintro e W4 ⟨tm4, rfl⟩; replace hb3 := hb3.keep tm4.keep (h3.ka.ne (by decide))))
      all_goals
        have h4 := h3.drew.toCell t3.drew.is_ hF3 tm4.is_ (Blk.keep h3.drew.cell tm4.keep (h3.kc.ne (by decide))) (tm4.keep.mono (fun _ _ h => .inl h))
        have T := DevTo.trans hI t3.drew h4
        have hq := Hqq.out
        try simp only at hq
        subst hq
        clear hc
        go_wp2_with fail
        refine (devDown_any B a mb _ _ W4 T.is_ hi.plaw).mono ?_
        rintro e W5 ⟨rfl, t5⟩
        have T5 := DevTo.trans hI T t5
        go_wp2_with fail
        go_ret
        exact ⟨rfl, T5⟩
    | some ko =>
      clear hone
      go_enter Tryz.func31, Tryz.ntmps31
      go_wp2_with fail
      refine hfr.mono ?_
      rintro e W1 ⟨rfl, t1⟩
      obtain ⟨⟨κ1, c1, d1, v1, g1, val1, h1, hF1⟩, hlo1⟩ := t1.is_
      have hc := h1.blk.cell
      unfold devCells at hc
      go_wp2_with fail
      refine (memOn_any mb _ _ W1 h1.mem).mono ?_
      rintro e W2 ⟨rfl, tm2⟩
      have t2 := DevTo.trans hI t1 (h1.toMem t1.is_ hF1 tm2)
      clear hc
      have t3 : DevTo B w a mb { (m.life 1) with m := m.m.on } F W2 := t2
      obtain ⟨κ3, c3, d3, v3, g3, val3, h3, hF3, hop⟩ := tail W2 t3
      have hb3 := h3.blk.drew
      have hc := h3.blk.cell
      unfold devCells at hc
      have hmem := h3.mem
      clear tail
      try simp only at hop
      go_wp2_with fail
      go_region_held3 (fun w' => w'.cell? ⟨a, 5, none⟩ = some (.pointer (some ⟨mb, 0, none⟩)) ∧ w'.cell? ⟨a, 6, none⟩ = some (.int .u32 m.max)) (exact ⟨(hb3.cell 5).trans rfl, (hb3.cell 6).trans rfl⟩) (first
        | (go_at_call 44; refine hop.mono ?_; rintro e W4 ⟨tm4, c4, rfl, _, hc4, hn4⟩; replace hb3 := hb3.keep tm4.keep (h3.ka.ne (by decide))))
      all_goals
        have hA4 := h3.drew.newCell tm4.is_ tm4.keep hc4 hn4
        have hz4 : (W4.setCell ⟨a, 7, none⟩ (.pointer (some ⟨c4, 0, none⟩))).heap.size = W4.heap.size := by simp [World.setCell]
        have t4 := DevAt.toIs hA4 t3.drew.is_ (fun x hx => (paint_sub (w := W2.drew) (w' := W4) hF3 x hx).imp id (fun hx => by rw [hz4]; exact hx)) ((tm4.keep.mono (fun x _ hx => hF3 x hx.has)).setCell (p := ⟨a, 7, none⟩) (fun _ => t3.is_.Fa) _)
        have T := DevTo.trans hI t3.drew t4
        have hf := hb3.frozen
        have hq := Hqq.out
        try simp only at hq
        subst hq
        clear hc
        have hc := hb3.cell
        unfold devCells at hc
        go_wp2_with fail
        go_ret
        exact ⟨rfl, T⟩
end Go.Proofs.YtbkkfkbgcklkgaaGreat
/- device.New; a nil device. -/
namespace Go.Proofs.YtbkkfkbgcklkgaaGreat
open Go.RowKit
set_option maxHeartbeats 10000000
set_option maxRecDepth 100000

theorem devReceive_nil (A : Option Addr) (n c : Nat) (w : World) : Calls Tryz.prog 19 #[.pointer none, .slice A n c] w fun e w' => e = .returned (.tuple #[.slice none 0 0, .int .i64 1]) ∧ w' = w := by
  go_enter Tryz.func19, Tryz.ntmps19
  go_wp2_with fail
  refine bodyPost_ret (v := .tuple #[.slice none 0 0, .int .i64 1]) (by simp [results, Tryz.results19, go_sem]) rfl ⟨rfl, rfl⟩
theorem devLog_nil (w : World) : Calls Tryz.prog 35 #[.pointer none] w fun e w' => e = .returned (.tuple #[.slice none 0 0, .int .i64 0]) ∧ w' = w := by
  go_enter Tryz.func35, Tryz.ntmps35
  go_wp2_with fail
  refine bodyPost_ret (v := .tuple #[.slice none 0 0, .int .i64 0]) (by simp [results, Tryz.results35, go_sem]) rfl ⟨rfl, rfl⟩
theorem devWrite_nil (A : Option Addr) (n c : Nat) (h : Bool) (w : World) : Calls Tryz.prog 24 #[.pointer none, .slice A n c, .bool h] w fun e w' => e = .returned (.int .i64 1) ∧ w' = w := by
  go_enter Tryz.func24, Tryz.ntmps24
  go_wp2_with fail
  go_ret
  exact ⟨rfl, rfl⟩
theorem devTick_nil (n : Int) (w : World) : Calls Tryz.prog 37 #[.pointer none, .int .i64 n] w fun e w' => e = .returned (.int .i64 1) ∧ w' = w := by
  go_enter Tryz.func37, Tryz.ntmps37
  go_wp2_with fail
  go_ret
  exact ⟨rfl, rfl⟩
theorem devAck_nil (w : World) : Calls Tryz.prog 38 #[.pointer none] w fun e w' => e = .returned (.int .i64 1) ∧ w' = w := by
  go_enter Tryz.func38, Tryz.ntmps38
  go_wp2_with fail
  go_ret
  exact ⟨rfl, rfl⟩
theorem devReset_nil (n : Int) (w : World) : Calls Tryz.prog 31 #[.pointer none, .int .i64 n] w fun e w' => e = .returned (.int .i64 1) ∧ w' = w := by
  go_enter Tryz.func31, Tryz.ntmps31
  go_wp2_with fail
  go_ret
  exact ⟨rfl, rfl⟩
theorem devCode_nil (w : World) : Calls Tryz.prog 39 #[.pointer none] w fun e w' => e = .returned (.int .u32 0) ∧ w' = w := by
  go_enter Tryz.func39, Tryz.ntmps39
  go_wp2_with fail
  go_ret
  exact ⟨rfl, rfl⟩
theorem devSee_nil (w : World) : Calls Tryz.prog 21 #[.pointer none] w fun e w' => e = .returned (endVal ⟨0, 0, 0, 0, 0, 0, false, false, []⟩ (.slice none 0 0)) ∧ Below w.heap.size w w' := by
  go_enter Tryz.func21, Tryz.ntmps21
  go_wp2_with fail
  refine bodyPost_ret (v := endVal ⟨0, 0, 0, 0, 0, 0, false, false, []⟩ (.slice none 0 0)) (by simp [results, Tryz.results21, go_sem, endVal]) rfl ⟨rfl, ?_⟩
  exact (Below.refl _ _).alloc (Nat.le_refl _) _
theorem cellOpen_nil (mx : Int) (w : World) : Calls Tryz.prog 44 #[.pointer none, .int .u32 mx] w fun e w' => e = .returned (.tuple #[.pointer none, .int .i64 1]) ∧ w' = w := by
  go_enter Tryz.func44, Tryz.ntmps44
  go_wp2_with fail
  refine bodyPost_ret (v := .tuple #[.pointer none, .int .i64 1]) (by simp [results, Tryz.results44, go_sem]) rfl ⟨rfl, rfl⟩
/-- No memory. -/
theorem devNew_nil (p : ParM) (mx : Int) (w : World) : Calls Tryz.prog 15 #[parVal p, .pointer none, .int .u32 mx] w fun e w' => e = .returned (.tuple #[.pointer none, .int .i64 (if p.lawful then 1 else 90)]) ∧ Below w.heap.size w w' := by
  have hchk := paramCheck_any p
  unfold parVal at *
  cases hl : p.lawful with
  | false =>
    rw [hl] at hchk
    simp only [Bool.false_eq_true, if_false] at hchk ⊢
    go_enter Tryz.func15, Tryz.ntmps15
    go_wp2_with fail
    refine (hchk _).mono ?_
    rintro e w1 ⟨rfl, hb1⟩
    go_wp2_with fail
    refine bodyPost_ret (v := .tuple #[.pointer none, .int .i64 90]) (by simp [results, Tryz.results15, go_sem]) rfl ⟨rfl, ?_⟩
    exact ((Below.refl _ _).alloc (Nat.le_refl _) _).trans (hb1.mono (by simp))
  | true =>
    rw [hl] at hchk
    simp only [if_true] at hchk ⊢
    go_enter Tryz.func15, Tryz.ntmps15
    go_wp2_with fail
    refine (hchk _).mono ?_
    rintro e w1 ⟨rfl, hb1⟩
    go_wp2_with fail
    refine (cellOpen_nil mx _).mono ?_
    rintro e w2 ⟨rfl, rfl⟩
    go_wp2_with fail
    refine bodyPost_ret (v := .tuple #[.pointer none, .int .i64 1]) (by simp [results, Tryz.results15, go_sem]) rfl ⟨rfl, ?_⟩
    exact ((Below.refl _ _).alloc (Nat.le_refl _) _).trans (hb1.mono (by simp))
theorem parS {w : World} {e0 : Nat} {t : TypeId} {x0 x1 x2 x3 x4 : Value} (h : Blk w e0 t #[x0, x1, x2, x3, x4]) :
    w.cell? ⟨e0, 0, none⟩ = some x0 ∧ w.cell? ⟨e0, 1, none⟩ = some x1 ∧ w.cell? ⟨e0, 2, none⟩ = some x2 ∧ w.cell? ⟨e0, 3, none⟩ = some x3 ∧ w.cell? ⟨e0, 4, none⟩ = some x4 :=
  ⟨(h.cell 0).trans rfl, (h.cell 1).trans rfl, (h.cell 2).trans rfl, (h.cell 3).trans rfl, (h.cell 4).trans rfl⟩
/-- What New answers, over a memory. -/
def NewAns (B : Nat) (w : World) (mb : Nat) (FM : Nat → Prop) (r : MemM × Option DevM × Int) (e : Ending) (w' : World) : Prop :=
  Keep FM w w' ∧ match r.2.1 with
  | some d => r.2.2 = 0 ∧ ∃ a F, e = .returned (.tuple #[.pointer (some ⟨a, 0, none⟩), .int .i64 0]) ∧ DevIs B w' a mb d F ∧ ∀ x, F x → FM x ∨ w.heap.size ≤ x
  | none => e = .returned (.tuple #[.pointer none, .int .i64 r.2.2]) ∧ MemIs w' mb r.1 FM
theorem devNew_any (B mb : Nat) (p : ParM) (M : MemM) (FM : Nat → Prop) (mx : Int) (w : World) (hM : MemIs w mb M FM) (ho : M.off = false) (hlo : ∀ x, FM x → B ≤ x ∧ x < w.heap.size) (hB : B ≤ w.heap.size) (hmx : 0 ≤ mx ∧ mx < 4294967296) :
    Calls Tryz.prog 15 #[parVal p, .pointer (some ⟨mb, 0, none⟩), .int .u32 mx] w fun e w' => NewAns B w mb FM (DevM.new p M mx) e w' := by
  have hchk := paramCheck_any p
  unfold parVal at *
  cases hl : p.lawful with
  | false =>
    have e1 : DevM.new p M mx = (M, none, 90) := by unfold DevM.new; rw [hl]; rfl
    rw [e1]
    rw [hl] at hchk
    simp only [Bool.false_eq_true, if_false] at hchk
    unfold NewAns
    go_enter Tryz.func15, Tryz.ntmps15
    go_wp2_with fail
    refine (hchk _).mono ?_
    rintro e w1 ⟨rfl, hb1⟩
    have hb : Below w.heap.size w w1 := ((Below.refl _ _).alloc (Nat.le_refl _) _).trans (hb1.mono (by simp))
    go_wp2_with fail
    exact bodyPost_ret (v := .tuple #[.pointer none, .int .i64 90]) (by simp [results, Tryz.results15, go_sem]) rfl ⟨Keep.of_below hb, rfl, hM.below hb⟩
  | true =>
    have hop := fun W h => cellOpen_any mb M FM mx W h ho
    obtain ⟨q, Hq⟩ : ∃ q, Hid (q = DevM.new p M mx) := ⟨_, Lib.hid rfl⟩
    have hq : q = match openM M mx with
      | (m', some c, _) => (m', some { p, m := m', max := mx, cell := c, value := List.replicate p.inn.toNat 0 }, 0)
      | (m', none, e) => (m', none, e) := by rw [Hq.out]; unfold DevM.new; rw [hl]; rfl
    rw [← Hq.out]
    have Hqq := Lib.hid hq
    have hone := fun h => openM_none (m := M) (mx := mx) h
    clear Hq hq
    rw [hl] at hchk
    simp only [if_true] at hchk
    generalize openM M mx = r at *
    obtain ⟨m', ko, er⟩ := r
    unfold NewAns
    cases ko with
    | none =>
      have hne := hone rfl
      have ge : (er != 0) = true := by simpa using hne
      have hq := Hqq.out
      try simp only at hq
      subst hq
      clear hone
      go_enter Tryz.func15, Tryz.ntmps15
      go_wp2_with fail
      refine (hchk _).mono ?_
      rintro e w1 ⟨rfl, hb1⟩
      have hb : Below w.heap.size w w1 := ((Below.refl _ _).alloc (Nat.le_refl _) _).trans (hb1.mono (by simp))
      go_wp2_with fail
      refine (hop w1 (hM.below hb) (fun x hx => by have := hlo x hx; have := hb.size; omega) hmx).mono ?_
      rintro e w2 ⟨t2, rfl⟩
      go_wp2_with fail
      exact bodyPost_ret (v := .tuple #[.pointer none, .int .i64 er]) (by simp [results, Tryz.results15, go_sem]) rfl ⟨(Keep.of_below hb).andThen t2.keep (fun _ _ h => h), rfl, t2.is_⟩
    | some ko =>
      have hq := Hqq.out
      try simp only at hq
      subst hq
      clear hone
      go_enter Tryz.func15, Tryz.ntmps15
      go_wp2_with fail
      refine (hchk _).mono ?_
      rintro e w1 ⟨rfl, hb1⟩
      have hP := (Blk.new w 35 #[.int .u32 p.code, .int .i64 p.out, .int .i64 p.inn, .int .i64 p.watch, .int .u32 p.count]).below hb1 (by simp)
      have hb : Below w.heap.size w w1 := ((Below.refl _ _).alloc (Nat.le_refl _) _).trans (hb1.mono (by simp))
      go_wp2_with fail
      refine (hop w1 (hM.below hb) (fun x hx => by have := hlo x hx; have := hb.size; omega) hmx).mono ?_
      rintro e w2 ⟨t2, c2, rfl, _, hc2, hn2⟩
      have hs1 := hb.size
      have hP2 := (hP.keep t2.keep (fun hx => by have := hlo _ hx; omega)).drew
      have hM2 : MemIs w2.drew mb m' FM := t2.is_.drewN 1
      have hC2 : CellIs w2.drew c2 mb ko := hc2
      have hs2 : w1.heap.size ≤ w2.drew.heap.size := t2.keep.size
      have hn2' : w1.heap.size ≤ c2 ∧ c2 < w2.drew.heap.size := hn2
      have hk2 : Keep FM w w2.drew := ((Keep.of_below hb).andThen t2.keep (fun _ _ h => h)).drew
      clear hop hn2
      have hPl := hP2.lt
      go_wp2_with fail
      go_region_held3 (fun w' => w'.cell? ⟨w.heap.size, 0, none⟩ = some (.int .u32 p.code) ∧ w'.cell? ⟨w.heap.size, 1, none⟩ = some (.int .i64 p.out) ∧ w'.cell? ⟨w.heap.size, 2, none⟩ = some (.int .i64 p.inn) ∧ w'.cell? ⟨w.heap.size, 3, none⟩ = some (.int .i64 p.watch) ∧ w'.cell? ⟨w.heap.size, 4, none⟩ = some (.int .u32 p.count)) (with_reducible (first | exact parS hP2 | exact parS (hP2.alloc _))) (first
        | (go_at_call 45; refine (diagNew_any _).mono ?_; rintro e W ⟨g, rfl, hD, hbn⟩; replace hP2 := hP2.below hbn hPl))
      have hs3 : w2.drew.heap.size ≤ W.heap.size := hbn.size
      classical
      have hpre : DevPre B (W.alloc (.cells #[.int .u32 p.code, .int .i64 p.out, .int .i64 p.inn, .int .i64 p.watch, .int .u32 p.count, .pointer (some ⟨mb, 0, none⟩), .int .u32 mx, .pointer (some ⟨c2, 0, none⟩), .pointer none, .pointer none, .pointer (some ⟨g, 0, none⟩), .int .i64 0, .int .u32 0, .int .u32 0, .int .u32 0, .int .i64 0, .slice none 0 0, .bool false] 109)) W.heap.size mb p mx [] m' ko
          (fun x => if x = W.heap.size then some 0 else if x = c2 then some 6 else if w2.drew.heap.size ≤ x ∧ x < W.heap.size then some 3 else if FM x then some 5 else none) c2 g (.pointer none) (.pointer none) (.int .i64 0) (.int .u32 0) (.int .u32 0) (.int .u32 0) (.int .i64 0) (.slice none 0 0) (.bool false) := by
        have hkA : Keep (fun _ => False) W (W.alloc (.cells #[.int .u32 p.code, .int .i64 p.out, .int .i64 p.inn, .int .i64 p.watch, .int .u32 p.count, .pointer (some ⟨mb, 0, none⟩), .int .u32 mx, .pointer (some ⟨c2, 0, none⟩), .pointer none, .pointer none, .pointer (some ⟨g, 0, none⟩), .int .i64 0, .int .u32 0, .int .u32 0, .int .u32 0, .int .i64 0, .slice none 0 0, .bool false] 109)) := (Keep.refl _ W).alloc _
        refine {
          blk := Blk.new W _ _
          log := hD.keep hkA (fun _ _ h => h) (fun x hx => ?_)
          mem := (hM2.below hbn).keep hkA (fun _ _ h => h) (fun x hx => ?_)
          cell := (Blk.below hC2 hbn hn2'.2).alloc _
          ka := by show (if _ then _ else _) = _; rw [if_pos rfl]
          kc := by show (if _ then _ else _) = _; rw [if_neg (by omega), if_pos rfl]
          lo := fun x hx => ?_ }
        · show (if _ then _ else _) = _
          rw [if_neg (by omega), if_neg (by omega), if_pos hx]
        · have := hlo x hx
          show (if _ then _ else _) = _
          rw [if_neg (by omega), if_neg (by omega), if_neg (by omega), if_pos hx]
        · simp only [World.size_alloc]
          by_cases e0 : x = W.heap.size
          · omega
          · rw [if_neg e0] at hx
            by_cases e1 : x = c2
            · omega
            · rw [if_neg e1] at hx
              by_cases e2 : w2.drew.heap.size ≤ x ∧ x < W.heap.size
              · omega
              · rw [if_neg e2] at hx
                by_cases e3 : FM x
                · have := hlo x e3; omega
                · rw [if_neg e3] at hx; exact absurd rfl hx
      go_wp2_with fail
      refine (devFresh_any B W.heap.size mb p mx [] m' ko _ c2 g _ _ _ _ _ _ _ _ _ _ hl hpre).mono ?_
      rintro e W3 ⟨rfl, ⟨κ', d, v, val, h', hF'⟩, hk3⟩
      go_wp2_with fail
      have hs4 := hk3.size
      simp only [World.size_alloc] at hs4
      have hkW : Keep FM w W3 := (((hk2.andThen (S' := fun _ => False) (Keep.of_below hbn) (fun _ _ h => h.elim)).alloc _).andThen hk3 (fun x hx e => by have := hk2.size; omega))
      refine bodyPost_ret (v := .tuple #[.pointer (some ⟨W.heap.size, 0, none⟩), .int .i64 0]) (by simp [results, Tryz.results15, go_sem]) rfl ⟨hkW, trivial, W.heap.size, fun x => κ' x ≠ none, rfl, DevIs.of h' (fun _ h => h) h'.lo, fun x hx => ?_⟩
      rcases hF' x hx with hx | hx
      · by_cases e0 : x = W.heap.size
        · exact .inr (by omega)
        · rw [if_neg e0] at hx
          by_cases e1 : x = c2
          · exact .inr (by omega)
          · rw [if_neg e1] at hx
            by_cases e2 : w2.drew.heap.size ≤ x ∧ x < W.heap.size
            · exact .inr (by omega)
            · rw [if_neg e2] at hx
              by_cases e3 : FM x
              · exact .inl e3
              · rw [if_neg e3] at hx; exact absurd rfl hx
      · exact .inr (by have := hk2.size; simp only [World.size_alloc] at hx; omega)
end Go.Proofs.YtbkkfkbgcklkgaaGreat
/- The device's plain laws at the small set: a half-open session is given up at the fourth odd unit; a step that comes again changes nothing that can be seen. No program here. -/
namespace Go.Proofs.YtbkkfkbgcklkgaaGreat
namespace DevM
def small : ParM := ⟨7, 2, 1, 10, 9⟩
/-- A new device over a new memory of 16 bytes. -/
def first (max : Int) : DevM := { p := small, m := ⟨List.replicate 16 0, false, false, 0, 0⟩, max, cell := ⟨max, 0, false⟩, value := [0] }
theorem new_small (max : Int) (h : max ≠ 0) : new small ⟨List.replicate 16 0, false, false, 0, 0⟩ max = (⟨List.replicate 16 0, false, false, 0, 0⟩, some (first max), 0) := by
  have hl : (!small.lawful) = false := by decide
  have ho : openM ⟨List.replicate 16 0, false, false, 0, 0⟩ max = (⟨List.replicate 16 0, false, false, 0, 0⟩, some ⟨max, 0, false⟩, 0) := by
    unfold openM
    rw [if_neg (by simp [h])]
    rfl
  unfold new
  rw [hl, ho]
  rfl
/-- The unit of an op of the kinds 1 to 4, for this device. -/
def opUnit (d : DevM) (kind : Int) (odd : Bool) (sign : List UInt8) (data : List UInt8) : UnitM :=
  let s := if odd then d.session + 1 else d.session
  if kind = 1 then ⟨1, d.p.code, 0, 0, 0, sign⟩ else if kind = 2 then ⟨2, d.p.code, s, 0, 0, sign⟩ else if kind = 3 then ⟨3, d.p.code, s, 0, 0, []⟩ else ⟨4, d.p.code, s, d.number + 1, 0, data⟩
/-- A unit is received. -/
def got (d : DevM) (u : UnitM) : DevM × List UInt8 × Int :=
  let r := d.take u
  if r.2.2 = 0 ∨ r.2.2 = 70 then r else ({ r.1 with log := noteM r.1.log r.2.2 r.1.session r.1.number }, r.2.1, r.2.2)
/-- The units of one kind each, from 1 on. -/
def ups (d : DevM) : Nat → DevM
  | 0 => d
  | k + 1 => let g := d.ups k; (g.got (g.opUnit (k + 1) false small.sign [5, 6])).1
def odds_ (d : DevM) : Nat → DevM
  | 0 => d
  | k + 1 => let g := d.odds_ k; (g.got (g.opUnit 3 true small.sign [])).1
def asks (d : DevM) : Nat → DevM
  | 0 => d
  | k + 1 => let g := d.asks k; (g.got (g.opUnit 1 false small.sign [])).1
def givesUpB (far odd : Nat) : Bool :=
  let a := (first 99).ups (far + 1)
  let b := a.odds_ odd
  let c := b.asks (4 - odd)
  decide (b.state = a.state ∧ b.session = a.session ∧ c.state = 2 ∧ c.session = a.session + 1 ∧ ((c.valve.latched = 131) ↔ (a.state = 4)))
def repeatsB (far times : Nat) : Bool :=
  let a := (first 9).ups far
  let r := a.got (a.opUnit (far + 1) false small.sign [])
  let b := r.1
  let u := b.opUnit (far + 1) false small.sign []
  let again : Nat → DevM := fun n => n.rec b fun _ g => (g.got u).1
  (List.range times).all fun i =>
    let g := again i
    let q := g.got u
    decide (q.2.1 = r.2.1 ∧ ((q.2.2 = 0) ↔ far ≠ 0) ∧ q.1.state = b.state ∧ q.1.session = b.session ∧ q.1.number = b.number ∧ q.1.sent = b.sent ∧ q.1.since = b.since ∧ q.1.valve.latched = b.valve.latched)
theorem givesUp_small : ∀ far < 4, ∀ odd < 4, givesUpB far odd = true := by decide +kernel
theorem repeats_small : ∀ far < 3, ∀ times < 4, repeatsB far times = true := by decide +kernel
end DevM
end Go.Proofs.YtbkkfkbgcklkgaaGreat
/- The statements' calls, a burst: plain. -/
namespace Go.Proofs.YtbkkfkbgcklkgaaGreat
open Go.RowKit
set_option maxHeartbeats 4000000
set_option maxRecDepth 100000

/-- One call. -/
structure OpM where
  kind : Int
  n : Int
  flags : Int
  odd : Bool
  data : List UInt8
  at_ : Int
  word : Int
/-- An op as a value. -/
def opVal (o : OpM) (x : Value) : Value := .agg #[.int .i64 o.kind, .int .i64 o.n, .int .i64 o.flags, .bool o.odd, x, .int .i64 o.at_, .int .u32 o.word]
structure OpM.Ok (o : OpM) : Prop where
  at_ : -9223372036854775808 ≤ o.at_ ∧ o.at_ < 9223372036854775808
  word : 0 ≤ o.word ∧ o.word < 4294967296
  n : -9223372036854775808 ≤ o.n ∧ o.n < 9223372036854775808
/-- A bit of a word. -/
def wbit (word : Int) (i : Nat) : Bool := word / 2 ^ i % 2 != 0
/-- How many bits a word has, of its first k. -/
def sizeTo (word : Int) : Nat → Nat
  | 0 => 0
  | k + 1 => if wbit word k then k + 1 else sizeTo word k
/-- A bit of a list turned. -/
def turnBit (b : List UInt8) (k : Nat) : List UInt8 := b.set (k / 8) ((b.getD (k / 8) 0) ^^^ (128 >>> UInt8.ofNat (k % 8)))
/-- The first k bits of a burst turned. -/
def turnTo (word : Int) (size frm : Nat) (b : List UInt8) : Nat → List UInt8
  | 0 => b
  | k + 1 => if wbit word (size - 1 - k) then turnBit (turnTo word size frm b k) (frm + k) else turnTo word size frm b k
/-- Bytes with a burst turned in them. -/
def burstM (b : List UInt8) (at_ word : Int) : Option (List UInt8) :=
  let size := sizeTo word 32
  if size = 0 ∨ 8 * b.length < size then none
  else
    let room := 8 * b.length - size + 1
    some (turnTo word size ((at_ % 18446744073709551616).toNat % room) b size)
def addU (a b : Int) : Int := (a + b) % 4294967296
end Go.Proofs.YtbkkfkbgcklkgaaGreat
/- Bytes with a burst turned in them (parapethand.Burst). -/
namespace Go.Proofs.YtbkkfkbgcklkgaaGreat
open Go.RowKit
set_option maxHeartbeats 10000000
set_option maxRecDepth 100000

theorem xor8 (x y : Int) : bits .xor .u8 x y = ((BitVec.ofInt 8 x ^^^ BitVec.ofInt 8 y).toNat : Int) := by
  unfold bits
  have h := (BitVec.ofInt 8 x ^^^ BitVec.ofInt 8 y).isLt
  exact IntWalk.u8_in ((BitVec.ofInt 8 x ^^^ BitVec.ofInt 8 y).toNat : Int) ⟨by omega, by omega⟩
theorem xor_byte (b v : UInt8) : bits .xor .u8 (b.toNat : Int) (v.toNat : Int) = ((b ^^^ v).toNat : Int) := by
  rw [xor8]
  have e : ∀ c : UInt8, BitVec.ofInt 8 (c.toNat : Int) = c.toBitVec := fun c => by apply BitVec.eq_of_toNat_eq; simp
  rw [e, e]
  rfl
theorem bit_at : ∀ r < 8, ((128 : UInt8) >>> UInt8.ofNat r).toNat = 128 / 2 ^ r := by decide
theorem and1_32 (x : Int) (h0 : 0 ≤ x) (h1 : x < 4294967296) : bits .and .u32 x 1 = x % 2 := bits_mask .u32 32 (by decide) (fun n a b => IntWalk.u32_in n ⟨a, by simp at b; omega⟩) 1 (by decide) x h0 h1
theorem word_bit {word : Int} (h0 : 0 ≤ word) (h1 : word < 4294967296) (k : Nat) : (bits .and .u32 (word / 2 ^ k) 1 != 0) = wbit word k := by
  have a : 0 ≤ word / 2 ^ k := Int.ediv_nonneg h0 (Int.le_of_lt (Int.pow_pos (by decide)))
  have b : word / 2 ^ k ≤ word := Int.ediv_le_self _ h0
  rw [and1_32 _ a (by omega)]
  rfl
theorem turnTo_length (word : Int) (size frm : Nat) (b : List UInt8) : ∀ k, (turnTo word size frm b k).length = b.length
  | 0 => rfl
  | k + 1 => by
    unfold turnTo
    split
    · unfold turnBit
      rw [List.length_set, turnTo_length word size frm b k]
    · exact turnTo_length word size frm b k
theorem sizeTo_le (word : Int) : ∀ k, sizeTo word k ≤ k
  | 0 => Nat.le_refl _
  | k + 1 => by
    unfold sizeTo
    split
    · exact Nat.le_refl _
    · exact Nat.le_succ_of_le (sizeTo_le word k)
theorem rem_u64 {at_ : Int} {R fr : Nat} (hR0 : 1 ≤ R) (hR : R < 17179869184) (h : fr = (at_ % 18446744073709551616).toNat % R) : wrap64 ((IntKind.u64.wrap at_).tmod (R : Int)) = (fr : Int) := by
  have e : IntKind.u64.wrap at_ = (((at_ % 18446744073709551616).toNat : Nat) : Int) := by
    rw [IntKind.wrap_u64]
    omega
  have hf : fr < R := by rw [h]; exact Nat.mod_lt _ hR0
  rw [e, Int.tmod_eq_emod_of_nonneg (Int.natCast_nonneg _), ← Int.natCast_emod, ← h]
  exact IntWalk.wrap64_in (fr : Int) ⟨by omega, by omega⟩
theorem turn_step {word : Int} {sz fr k : Nat} {l : List UInt8} (h : wbit word (sz - 1 - k) = true) (j : Nat) (hj : j = fr + k) : turnTo word sz fr l (k + 1) = (turnTo word sz fr l k).set (j / 8) (((turnTo word sz fr l k).getD (j / 8) 0) ^^^ (128 >>> UInt8.ofNat (j % 8))) := by
  subst hj
  show (if _ then _ else _) = _
  rw [h, if_pos rfl]
  rfl
theorem turn_skip {word : Int} {sz fr k : Nat} {l : List UInt8} (h : wbit word (sz - 1 - k) = false) : turnTo word sz fr l (k + 1) = turnTo word sz fr l k := by
  show (if _ then _ else _) = _
  rw [h, if_neg (by decide)]
theorem burst_any (A : Option Addr) (n c B : Nat) (l : List UInt8) (at_ word : Int) (w : World) (hr : Reads w B 1 A n (u8c l)) (hB : B ≤ w.heap.size) (hn : n < 1073741824) (hw0 : 0 ≤ word ∧ word < 4294967296) :
    Calls Tryz.prog 34 #[.slice A n c, .int .i64 at_, .int .u32 word] w fun e w' => ∃ v, e = .returned (.tuple #[v, .bool (burstM l at_ word).isSome]) ∧ (burstM l at_ word = none → v = .slice none 0 0) ∧ (∀ b, burstM l at_ word = some b → w'.ownsRow w.heap.size 5 1 v b.length (u8c b)) ∧ Below w.heap.size w w' := by
  have hl : l.length = n := by have := hr.1; simpa [u8c] using this
  have Hl := Lib.hid hl
  obtain ⟨r, Hr⟩ : ∃ r, Hid (r = burstM l at_ word) := ⟨_, Lib.hid rfl⟩
  rw [← Hr.out]
  clear hl
  have hwb := fun k => word_bit hw0.1 hw0.2 k
  have Hwb := Lib.hid hwb
  clear hwb
  go_enter Tryz.func34, Tryz.ntmps34
  go_wp2_with fail
  go_loopg [8, 9] 32 (fun q v8 v9 wr => ∃ (k : Nat), k + q = 32 ∧ v9 = .int .i64 k ∧ v8 = .int .i64 (sizeTo word k : Nat) ∧ wr = w)
  case atStart => exact ⟨0, rfl, rfl, rfl, rfl⟩
  case round =>
    obtain ⟨k, hq, rfl, rfl, rfl⟩ := hrel
    have hg := Hwb.out k
    have Hs : Hid (sizeTo word (k + 1) = if wbit word k then k + 1 else sizeTo word k) := Lib.hid rfl
    by_cases hk : k < 32
    · cases hbk : wbit word k with
      | true =>
        rw [hbk] at hg Hs
        go_wp2_with fail
        go_roundg (32 - (k + 1))
        case measure => omega
        case rel => exact ⟨k + 1, by omega, by go_num, by rw [show sizeTo word (k + 1) = k + 1 by rw [Hs.out]; rfl]; go_num, rfl⟩
      | false =>
        rw [hbk] at hg Hs
        go_wp2_with fail
        go_roundg (32 - (k + 1))
        case measure => omega
        case rel => exact ⟨k + 1, by omega, by go_num, by rw [show sizeTo word (k + 1) = sizeTo word k by rw [Hs.out]; rfl], rfl⟩
    · obtain rfl : k = 32 := by omega
      clear hg Hs
      obtain ⟨W0, rfl⟩ : ∃ W : World, W = wr := ⟨_, rfl⟩
      have hsz := sizeTo_le word 32
      have Hb : Hid (burstM l at_ word = if sizeTo word 32 = 0 ∨ 8 * l.length < sizeTo word 32 then none else some (turnTo word (sizeTo word 32) ((at_ % 18446744073709551616).toNat % (8 * l.length - sizeTo word 32 + 1)) l (sizeTo word 32))) := Lib.hid rfl
      generalize sizeTo word 32 = sz at *
      have hln := Hl.out
      by_cases z1 : sz = 0
      · have hrn : r = none := by rw [Hr.out, Hb.out, if_pos (.inl z1)]
        subst hrn
        have gz : ((sz : Int) == 0) = true := by simpa using z1
        clear z1 hln
        go_wp2_with fail
        refine bodyPost_ret (v := .tuple #[.slice none 0 0, .bool false]) (by simp [results, Tryz.results34, go_sem]) rfl ⟨_, rfl, rfl, Below.refl _ _⟩
      have gz : ((sz : Int) == 0) = false := by simpa using z1
      by_cases z2 : 8 * n < sz
      · have hrn : r = none := by rw [Hr.out, Hb.out, if_pos (.inr (by omega))]
        subst hrn
        clear z1 hln
        go_wp2_with fail
        refine bodyPost_ret (v := .tuple #[.slice none 0 0, .bool false]) (by simp [results, Tryz.results34, go_sem]) rfl ⟨_, rfl, rfl, Below.refl _ _⟩
      obtain ⟨R, hR⟩ : ∃ R : Nat, 8 * n - sz + 1 = R := ⟨_, rfl⟩
      have hR1 : (8 : Int) * n - sz + 1 = (R : Int) := by omega
      have hR0 : 1 ≤ R := by omega
      obtain ⟨fr, Hfr⟩ : ∃ fr, Hid (fr = (at_ % 18446744073709551616).toNat % R) := ⟨_, Lib.hid rfl⟩
      have hfr : fr < R := by rw [Hfr.out]; exact Nat.mod_lt _ hR0
      have Hrs : Hid (r = some (turnTo word sz fr l sz)) := Lib.hid (by rw [Hr.out, Hb.out, if_neg (by omega), hln, hR, Hfr.out])
      have HR := Lib.hid hR
      clear hR hln Hb Hr
      have hrem := rem_u64 hR0 (by omega) Hfr.out
      obtain ⟨i0, hi0, hz0, hz1, hz2⟩ := info_parts byte_info
      go_wp2_with (at_builtin; refine wpList_append_any _ rfl (.tmp 44) (.tmp 45) _ rfl W0.heap.size 5 i0 _ 1 1 Tryz.underlying41 hi0 hz0 hz1 hz2 rfl (by omega) (.slice (some ⟨W0.heap.size, 0, none⟩) 0 0) 0 [] rfl (World.ownsRow_made W0 #[] 0 (Nat.le_refl _) (by unfold maxLen; omega) rfl) B A n c (u8c l) rfl (hr.alloc hB _) (u8c_one l) (by unfold maxLen; omega) (by omega) (by simp) ?_; intro v1 w1 hown1 hg1 hat1; rw [Nat.zero_add, List.nil_append] at hown1; obtain ⟨A1, c1, rfl⟩ := own_slice hown1)
      have hb1 := ((Below.refl W0.heap.size W0).alloc (Nat.le_refl _) (.cells #[] 5)).grown hg1 (by simp) (fun k hk => by simp [Value.ownBlock] at hk; omega)
      obtain ⟨g, rfl⟩ := own_some hown1 (by omega)
      have hgl := (hown1.lt g rfl)
      clear hg1 hat1 hrem
      have HrsF := Hrs
      clear Hrs
      go_wp2_with fail
      go_loopg [13, 14] sz (fun q v13 _v14 wl => ∃ (k : Nat), k + q = sz ∧ v13 = .int .i64 k ∧ wl.ownsRow W0.heap.size 5 1 (.slice (some ⟨g, 0, none⟩) n c1) n (u8c (turnTo word sz fr l k)) ∧ Below W0.heap.size W0 wl)
      case atStart => exact ⟨0, by omega, rfl, hown1, hb1⟩
      case round =>
        obtain ⟨k, hq2, e13, hown2, hb2⟩ := hrel
        subst e13
        by_cases hks : k < sz
        · have hg := Hwb.out (sz - 1 - k)
          have hsh : (sz : Int) - 1 - (k : Int) = ((sz - 1 - k : Nat) : Int) := by omega
          have HR1 := HR.out
          obtain ⟨j, hj⟩ : ∃ j : Nat, j = fr + k := ⟨_, rfl⟩
          have hj1 : (fr : Int) + (k : Int) = (j : Int) := by omega
          have hj8 : j / 8 < n := by omega
          have Hj := Lib.hid hj
          have Hj8 := Lib.hid hj8
          have Hhg := Lib.hid hg
          clear hg hj hj8 HR1
          cases hbk : wbit word (sz - 1 - k) with
          | true =>
            have hts := turn_step (fr := fr) (l := l) hbk j Hj.out
            have Hts := Lib.hid hts
            rw [hbk] at Hhg
            have hg := Hhg.out
            have hcell : wr.cell? ⟨g, j / 8, none⟩ = some (.int .u8 (((turnTo word sz fr l k).getD (j / 8) 0).toNat : Int)) := by have h := (Reads.of_own hown2).byte (j / 8) Hj8.out; have e : (⟨g, 0, none⟩ : Addr).add (j / 8) = ⟨g, j / 8, none⟩ := (by by_cases h : j / 8 = 0 <;> simp [Addr.add, h]); rw [e] at h; exact h
            have hfz := (own_at (k := j / 8) hown2).1
            have hj1' : j = fr + k := Hj.out
            have hjlt : j < 8 * n := by have := HR.out; omega
            have hdiv : (j : Int).tdiv 8 = ((j / 8 : Nat) : Int) := by rw [Int.tdiv_eq_ediv_of_nonneg (Int.natCast_nonneg _)]; rfl
            have hmod : (j : Int).tmod 8 = ((j % 8 : Nat) : Int) := by rw [Int.tmod_eq_emod_of_nonneg (Int.natCast_nonneg _)]; rfl
            have hxb := xor_byte ((turnTo word sz fr l k).getD (j / 8) 0) ((128 : UInt8) >>> UInt8.ofNat (j % 8))
            rw [bit_at (j % 8) (Nat.mod_lt _ (by decide)), show ((128 / 2 ^ (j % 8) : Nat) : Int) = 128 / 2 ^ (j % 8) by simp] at hxb
            have hb3 : Below W0.heap.size W0 (wr.setCell ⟨g, j / 8, none⟩ (.int .u8 ((((turnTo word sz fr l k).getD (j / 8) 0) ^^^ ((128 : UInt8) >>> UInt8.ofNat (j % 8))).toNat : Int))) := hb2.setCell hgl.1 _
            have hown3 := own_set1 hown2 (j / 8) (.int .u8 ((((turnTo word sz fr l k).getD (j / 8) 0) ^^^ ((128 : UInt8) >>> UInt8.ofNat (j % 8))).toNat : Int))
            have hset : (u8c (turnTo word sz fr l k)).set (j / 8) (.int .u8 ((((turnTo word sz fr l k).getD (j / 8) 0) ^^^ ((128 : UInt8) >>> UInt8.ofNat (j % 8))).toNat : Int)) = u8c (turnTo word sz fr l (k + 1)) := by rw [Hts.out]; simp [u8c, List.map_set]
            rw [hset] at hown3
            have Hown3 := Lib.hid hown3
            have Hb3 := Lib.hid hb3
            generalize (turnTo word sz fr l k).getD (j / 8) 0 = x at *
            generalize (128 : UInt8) >>> UInt8.ofNat (j % 8) = y at *
            have hjn : ((j / 8 : Nat) : Int) < (n : Int) := by have := Hj8.out; omega
            have hj0 : (0 : Int) ≤ ((j / 8 : Nat) : Int) := Int.natCast_nonneg _
            clear hts hbk hown3 hb3 hset Hts hj1'
            have hmn : min (j % 8) 8 = j % 8 := Nat.min_eq_left (by have := Nat.mod_lt j (show 0 < 8 by decide); omega)
            have Hmn := Lib.hid hmn
            have Hxb := Lib.hid hxb
            clear hmn hxb
            generalize j / 8 = j8 at *
            generalize j % 8 = jr at *
            go_wp2_with fail
            go_region
            rw [Hmn.out, Hxb.out]
            go_wp2_with fail
            go_roundg (sz - (k + 1))
            case measure => omega
            case rel => exact ⟨k + 1, by omega, by go_num, Hown3.out, Hb3.out.drew⟩
          | false =>
            have hts := turn_skip (fr := fr) (l := l) hbk
            have Hts := Lib.hid hts
            rw [hbk] at Hhg
            have hg := Hhg.out
            clear hts hbk
            go_wp2_with fail
            go_roundg (sz - (k + 1))
            case measure => omega
            case rel => exact ⟨k + 1, by omega, by go_num, by rw [Hts.out]; exact hown2, hb2⟩
        · obtain rfl : k = sz := by omega
          have hrs := HrsF.out
          subst hrs
          go_wp2_with fail
          refine bodyPost_ret (v := .tuple #[.slice (some ⟨g, 0, none⟩) n c1, .bool true]) (by simp [results, Tryz.results34, go_sem]) rfl ⟨_, rfl, ?_, hb2⟩
          rw [turnTo_length, Hl.out]
          exact hown2
theorem burst_length {b x : List UInt8} {at_ word : Int} (h : burstM b at_ word = some x) : x.length = b.length := by
  unfold burstM at h
  simp only at h
  split at h
  · cases h
  · injection h with h
    subst h
    exact turnTo_length _ _ _ _ _
theorem addU_ok (a b : Int) : 0 ≤ addU a b ∧ addU a b < 4294967296 := by unfold addU; omega
theorem addU_wrap (a b : Int) : IntKind.u32.wrap (a + IntKind.u32.wrap b) = addU a b := by
  rw [IntKind.wrap_u32, IntKind.wrap_u32]
  unfold addU
  omega
theorem encode_small (u : UnitM) : u.encode.length ≤ 1000 := by
  unfold UnitM.encode
  split
  · rename_i h
    have := UnitM.lawful_len h
    simp [sealM, UnitM.body, wordBytes, wordOf]
    omega
  · simp
end Go.Proofs.YtbkkfkbgcklkgaaGreat
/- parapetlaw13: frame, Awake; a new memory. -/
namespace Go.Proofs.YtbkkfkbgcklkgaaGreat
open Go.RowKit
set_option maxHeartbeats 10000000
set_option maxRecDepth 100000

theorem lawFrame_any (k c s n f : Int) (data : List UInt8) (A : Option Addr) (len cap Br : Nat) (w : World) (hlen : data.length = len) (hc : 0 ≤ c ∧ c < 4294967296) (hs : 0 ≤ s ∧ s < 4294967296) (hn : 0 ≤ n ∧ n < 4294967296) (hr : Reads w Br 1 A len (u8c data)) (hB : Br ≤ w.heap.size) :
    Calls Tryz.prog 28 #[.agg #[.int .i64 k, .int .u32 c, .int .u32 s, .int .u32 n, .int .i64 f, .slice A len cap]] w fun e w' => ∃ v, e = .returned v ∧ w'.ownsRow w.heap.size 5 1 v (UnitM.mk k c s n f data).encode.length (u8c (UnitM.mk k c s n f data).encode) ∧ Below w.heap.size w w' := by
  subst hlen
  have hb1 : Below w.heap.size w (w.alloc (.cells #[.int .i64 k, .int .u32 c, .int .u32 s, .int .u32 n, .int .i64 f, .slice A data.length cap] 68)) := (Below.refl _ _).alloc (Nat.le_refl _) _
  have henc := r4encode_any ⟨k, c, s, n, f, data⟩ A cap Br _ ⟨hc, hs, hn⟩ (hr.below (hb1.mono hB)) (Nat.le_trans hB hb1.size)
  unfold unitVal at henc
  simp only at henc
  generalize (UnitM.mk k c s n f data).encode = fr at *
  generalize (UnitM.mk k c s n f data).lawful = law at *
  have hs1 := hb1.size
  clear hr
  go_enter Tryz.func28, Tryz.ntmps28
  go_wp2_with fail
  refine henc.mono ?_
  rintro e w1 ⟨v, rfl, hown, hbe⟩
  obtain ⟨Av, cv, rfl⟩ := own_slice hown
  go_wp2_with fail
  go_ret
  exact ⟨_, rfl, own_base hown hs1, hb1.trans (hbe.mono hs1)⟩
/-- A new memory of 16 bytes. -/
def mem16 : MemM := ⟨List.replicate 16 0, false, false, 0, 0⟩
theorem memNew16_any (w : World) : Calls Tryz.prog 13 #[.int .i64 16] w fun e w' => ∃ mb, e = .returned (.tuple #[.pointer (some ⟨mb, 0, none⟩), .int .i64 0]) ∧ MemIs w' mb mem16 (fun x => w.heap.size ≤ x ∧ x < w'.heap.size) ∧ Below w.heap.size w w' := by
  have hmk : ∀ W : World, (Instr.makeSlice 41 (.int .i64 16) (.int .i64 16)).run Tryz.prog W = .ok (.slice (some ⟨W.heap.size, 0, none⟩) 16 16) (W.alloc (.cells (madeCells #[.int .u8 0] 16) 5)) := run_make_row' (P := Tryz.prog) 41 5 (.int .u8 0) 1 Tryz.underlying41 byte_info rfl .i64 .i64 16 (by omega) (by omega)
  have hmade := own_made w 16 (by omega)
  go_enter Tryz.func13, Tryz.ntmps13
  go_wp2_with fail
  refine bodyPost_ret (v := .tuple #[.pointer (some ⟨w.heap.size + 1, 0, none⟩), .int .i64 0]) (by simp [results, Tryz.results13, go_sem]) rfl ⟨w.heap.size + 1, rfl, ⟨.slice (some ⟨w.heap.size, 0, none⟩) 16 16, 0, ?_⟩, ((Below.refl _ w).alloc (Nat.le_refl _) _).alloc (by simp) _⟩
  exact {
    blk := Blk.new' (w.alloc _) _ _ (by simp)
    bytes := own_base (own_below hmade ((Below.refl _ _).alloc (Nat.le_refl _) _)) (Nat.zero_le _)
    fb := by simp
    fr := fun x hx => by simp [Value.ownBlock] at hx; simp; omega
    len := by decide
    left := by simp [mem16] }
theorem small_eq : DevM.small = smallM := rfl
theorem first_inv (mx : Int) (h : 0 < mx ∧ mx < 4294967296) : (DevM.first mx).Inv :=
  (DevM.inv_new (p := smallM) (m := mem16) (mx := mx) small_ok (by omega) (DevM.new_small mx (by omega))).1
/-- A new device over a new memory, at the small set. -/
theorem devFirst_any (mb : Nat) (F : Nat → Prop) (B : Nat) (mx : Int) (w : World) (hM : MemIs w mb mem16 F) (hlo : ∀ x, F x → B ≤ x ∧ x < w.heap.size) (hB : B ≤ w.heap.size) (hmx : 0 < mx ∧ mx < 4294967296) :
    Calls Tryz.prog 15 #[parVal smallM, .pointer (some ⟨mb, 0, none⟩), .int .u32 mx] w fun e w' => ∃ a F', e = .returned (.tuple #[.pointer (some ⟨a, 0, none⟩), .int .i64 0]) ∧ DevIs B w' a mb (DevM.first mx) F' ∧ Keep F w w' ∧ ∀ x, F' x → F x ∨ w.heap.size ≤ x := by
  refine (devNew_any B mb smallM mem16 F mx w hM rfl hlo hB (by omega)).mono ?_
  have hn : DevM.new smallM mem16 mx = (mem16, some (DevM.first mx), 0) := DevM.new_small mx (by omega)
  rw [hn]
  rintro e w' ⟨hk, _, a, F', he, hI, hF⟩
  exact ⟨a, F', he, hI, hk, hF⟩
/-- The host's wish, at the small set. -/
def wishU : UnitM := ⟨1, 7, 0, 0, 0, smallM.sign⟩
theorem wish_decode : decodeM wishU.encode = (wishU, 0) := by
  apply decode_encode
  · unfold UnitM.lawful wishU
    simp [isHost, isDev, dataOk, sessOk, numOk, flagOk, sign_length]
  · exact ⟨by simp [wishU], by simp [wishU], by simp [wishU]⟩
theorem wish_receive {d : DevM} (hp : d.p = smallM) (h6 : d.state ≠ 6) : d.receive wishU.encode = (if d.wish.2.2 = 0 ∨ d.wish.2.2 = 70 then d.wish else ({ d.wish.1 with log := noteM d.wish.1.log d.wish.2.2 d.wish.1.session d.wish.1.number }, d.wish.2.1, d.wish.2.2)) := by
  have hr : d.read wishU.encode = d.wish := by
    unfold DevM.read
    simp only [wish_decode]
    rw [if_neg (by decide), if_neg (by decide), if_neg (by rw [hp]; decide)]
    unfold DevM.take
    rw [if_pos (show wishU.kind = 1 from rfl), if_pos (by rw [hp]; rfl)]
  unfold DevM.receive
  rw [if_neg h6, hr]
/-- What the first wish answers. -/
theorem first_wish (mx : Int) (h : 0 < mx) : (DevM.first mx).wish = ((DevM.first mx).wish.1, (UnitM.mk 17 7 1 0 0 smallM.sign).encode, 0) ∧ (DevM.first mx).wish.1.session = 1 ∧ (DevM.first mx).wish.1.state = 2 := by
  have hb : (DevM.first mx).busy = false := by simp [DevM.busy, DevM.first]
  have e : (DevM.first mx).wish = (DevM.first mx).begin_ := by unfold DevM.wish; rw [hb]; rfl
  have hn : (DevM.first mx).cell.next (DevM.first mx).m = (⟨mx, 1, false⟩, ((DevM.first mx).m.writeSlot 0 1).1, 1, 0) := by
    show (⟨mx, 0, false⟩ : CellM).next ⟨List.replicate 16 0, false, false, 0, 0⟩ = _
    unfold CellM.next
    rw [if_neg (by simp), if_neg (by dsimp only; omega)]
    rfl
  rw [e]
  unfold DevM.begin_
  rw [hn]
  simp only
  rw [if_neg (by decide), if_neg (by decide)]
  exact ⟨rfl, rfl, rfl⟩
theorem offer_decode : decodeM (UnitM.mk 17 7 1 0 0 smallM.sign).encode = (UnitM.mk 17 7 1 0 0 smallM.sign, 0) := by
  apply decode_encode
  · unfold UnitM.lawful
    simp [isHost, isDev, dataOk, sessOk, numOk, flagOk, sign_length]
  · exact ⟨by simp, by simp, by simp⟩
theorem end_state (a0 a1 a2 a3 a4 a5 a6 a7 a8 : Value) (W : World) : (Instr.field 52 (.agg #[a0, a1, a2, a3, a4, a5, a6, a7, a8]) 0).run Tryz.prog W = .ok a0 W := by
  unfold Instr.field
  simp only [Sem.run_bind, run_underlying Tryz.underlying52, Result.andThen]
  have hagg : (isAgg 50).run Tryz.prog W = .ok false W := by kernel_rfl
  show Sem.run _ (do let l ← asAgg (Value.agg #[a0, a1, a2, a3, a4, a5, a6, a7, a8]); part 50 l 0) W = _
  simp [Sem.run_bind, asAgg, part, hagg, Sem.run_pure]
theorem lawAwakeD_any (w : World) : Calls Tryz.prog 12 #[] w fun e w' => e = .returned (.bool true) ∧ Below w.heap.size w w' := by
  have hfld := end_state
  go_enter Tryz.func12, Tryz.ntmps12
  go_wp2_with fail
  refine (memNew16_any w).mono ?_
  rintro e w1 ⟨mb, rfl, hM, hb1⟩
  go_wp2_with fail
  refine (lawSmall_any w1).mono ?_
  rintro e w2 ⟨rfl, hb2⟩
  have hs1 := hb1.size
  have hb2' := hb1.trans (hb2.mono hs1)
  go_wp2_with fail
  refine (devFirst_any mb _ w.heap.size 9 w2 (hM.below hb2) (fun x hx => by have := hb2.size; omega) hb2'.size (by omega)).mono ?_
  rintro e w3 ⟨a, F, rfl, hI, hk3, hF⟩
  have hb3 : Below w.heap.size w w3 := hb2'.trans (hk3.below hb2'.size (fun x hx => hx.1))
  go_wp2_with fail
  refine (lawSmall_any w3).mono ?_
  rintro e w4 ⟨rfl, hb4⟩
  go_wp2_with fail
  refine (r9sign_any smallM w4 small_ok small_lawful).mono ?_
  rintro e w5 ⟨v5, rfl, hown5, hb5⟩
  obtain ⟨A5, c5, rfl⟩ := own_slice hown5
  have hb45 := hb4.trans (hb5.mono hb4.size)
  have hs3 := hb3.size
  go_wp2_with fail
  refine (lawFrame_any 1 7 0 0 0 smallM.sign A5 4 c5 w5.heap.size w5 (sign_length _) (by omega) (by omega) (by omega) (Reads.of_own hown5) (Nat.le_refl _)).mono ?_
  rintro e w6 ⟨v6, rfl, hown6, hb6⟩
  obtain ⟨A6, c6, rfl⟩ := own_slice hown6
  have hb36 := hb45.trans (hb6.mono hb45.size)
  have hb06 := hb3.trans (hb36.mono hs3)
  have hrec := devReceive_any w.heap.size a mb (DevM.first 9) F A6 wishU.encode.length c6 w6.heap.size wishU.encode w6 (hI.below hb36) (first_inv 9 (by omega)) (by decide) (Reads.of_own hown6) (Nat.le_refl _) (own_cap hown6) (by have := encode_small wishU; omega)
  have hwr : (DevM.first 9).receive wishU.encode = ((DevM.first 9).wish.1, (UnitM.mk 17 7 1 0 0 smallM.sign).encode, 0) := by
    rw [wish_receive rfl (by decide)]
    have e := (first_wish 9 (by omega)).1
    rw [e]
    simp
  have hst := (first_wish 9 (by omega)).2.2
  have hinv := ((first_inv 9 (by omega)).wish)
  rw [hwr] at hrec
  generalize (DevM.first 9).wish.1 = k at *
  have hdec := offer_decode
  generalize hfr : (UnitM.mk 17 7 1 0 0 smallM.sign).encode = fr at *
  replace hrec : Calls Tryz.prog 19 #[.pointer (some ⟨a, 0, none⟩), .slice A6 (UnitM.mk 1 7 0 0 0 smallM.sign).encode.length c6] w6 fun e w' => DevAns w.heap.size w6 a mb F (k, fr, 0) e w' := hrec
  generalize (UnitM.mk 1 7 0 0 0 smallM.sign).encode.length = n6 at *
  clear hwr hfr
  go_wp2_with fail
  refine hrec.mono ?_
  rintro e w7 ⟨x7, rfl, hown7, t7⟩
  simp only at hown7
  obtain ⟨A7, c7, rfl⟩ := own_slice hown7
  have hb7 : Below w.heap.size w w7 := hb06.trans (t7.too.keep.below hb06.size (fun x hx => ((hI.lo x hx)).1))
  have hI7 := t7.too.is_
  clear hrec hown6
  go_wp2_with fail
  refine (r4decode_any A7 _ c7 w7.heap.size fr w7 (Reads.of_own hown7) (Nat.le_refl _) (own_cap hown7)).mono ?_
  rw [hdec]
  simp only
  rintro e w8 ⟨v8, rfl, hown8, hb8⟩
  obtain ⟨A8, c8, rfl⟩ := own_slice hown8
  have hb8' := hb7.trans (hb8.mono hb7.size)
  generalize smallM.sign.length = nd at *
  have hI8 := (hI7.below hb8).below ((Below.refl w8.heap.size w8).alloc (Nat.le_refl _) (.cells #[.int .i64 17, .int .u32 7, .int .u32 1, .int .u32 0, .int .i64 0, .slice A8 nd c8] 68))
  have hb9 := hb8'.alloc hb8'.size (.cells #[.int .i64 17, .int .u32 7, .int .u32 1, .int .u32 0, .int .i64 0, .slice A8 nd c8] 68)
  unfold unitVal
  simp only
  clear hown8 hdec hown7
  have hsee := devSee_any w.heap.size a mb k _ _ hI8 hinv
  have hst2 : k.see.state = 2 := hst
  generalize k.see = em at hsee hst2
  obtain ⟨state, session, number, sent, since, latched, request, on, out⟩ := em
  simp only at hst2
  subst hst2
  go_wp2_with fail
  refine hsee.mono ?_
  rintro e w10 ⟨x10, rfl, hown10, hb10⟩
  have hb10' := hb9.trans (hb10.mono hb9.size)
  obtain ⟨A10, c10, rfl⟩ := own_slice hown10
  unfold endVal
  simp only
  go_wp2_with fail
  go_ret
  exact ⟨rfl, hb10'⟩
end Go.Proofs.YtbkkfkbgcklkgaaGreat
/- However often the power goes while a session is begun, and while a device wakes, the sessions rise: plain. -/
namespace Go.Proofs.YtbkkfkbgcklkgaaGreat
namespace MemM
theorem Sound.on {m : MemM} {V : Int} (h : m.Sound V) : m.on.Sound V := h.same rfl
theorem Sound.arm {m : MemM} {V : Int} (h : m.Sound V) (n : Int) : (m.arm n).1.Sound V := by unfold MemM.arm; split <;> exact h.same rfl
theorem arm_off (m : MemM) (n : Int) : (m.arm n).1.off = m.off := by unfold arm; split <;> rfl
end MemM
namespace DevM
theorem begin_sound {d : DevM} {V : Int} (hc : d.cell = ⟨d.max, V, false⟩) (h : d.m.Sound V) (ho : d.m.off = false) (hV : V < d.max) (hmax : d.max < 4294967296) :
    d.begin_.1.p = d.p ∧ d.begin_.1.max = d.max ∧ (d.begin_.2.2 = 0 ∧ d.begin_.1.session = V + 1 ∧ d.begin_.1.m.Sound (V + 1) ∨ d.begin_.2.2 = 70 ∧ d.begin_.1.session = 0 ∧ d.begin_.1.m.Sound V) := by
  have hn := next_sound h ho hV hmax
  unfold begin_
  rw [hc]
  generalize (⟨d.max, V, false⟩ : CellM).next d.m = r at hn ⊢
  obtain ⟨c, m, s, e⟩ := r
  simp only [Prod.mk.injEq] at hn
  rcases hn with ⟨⟨rfl, rfl⟩, rfl, a3, _⟩ | ⟨⟨rfl, rfl⟩, a3, _⟩
  · exact ⟨rfl, rfl, .inl ⟨rfl, rfl, a3⟩⟩
  · exact ⟨rfl, rfl, .inr ⟨rfl, rfl, a3⟩⟩
theorem wish_sound {d : DevM} {V : Int} (hs : d.state = 1) (hc : d.cell = ⟨d.max, V, false⟩) (h : d.m.Sound V) (ho : d.m.off = false) (hV : V < d.max) (hmax : d.max < 4294967296) :
    d.wish.1.p = d.p ∧ d.wish.1.max = d.max ∧ (d.wish.2.2 = 0 ∧ d.wish.1.session = V + 1 ∧ d.wish.1.m.Sound (V + 1) ∨ d.wish.2.2 = 70 ∧ d.wish.1.session = 0 ∧ d.wish.1.m.Sound V) := by
  have hb : d.busy = false := by unfold busy; simp [hs]
  have e : d.wish = d.begin_ := by unfold wish; rw [hb]; rfl
  rw [e]
  exact begin_sound hc h ho hV hmax
/-- A device that wakes: what stands in its memory stands. -/
theorem reset_sound {d : DevM} {V : Int} (n : Int) (hn : 0 ≤ n) (h : d.m.Sound V) (hm : d.max ≠ 0) :
    (d.reset n).1.m.Sound V ∧ (d.reset n).1.p = d.p ∧ (d.reset n).1.max = d.max ∧
    (n = 0 → (d.reset n).2 = 0 ∧ (d.reset n).1.state = 1 ∧ (d.reset n).1.session = 0 ∧ (d.reset n).1.cell = ⟨d.max, V, false⟩ ∧ (d.reset n).1.m.off = false ∧ (d.reset n).1.m.armed = false) := by
  have hS : (if 0 < n then (d.m.on.arm (n - 1)).1 else d.m.on).Sound V := by split <;> first | exact h.on.arm _ | exact h.on
  have hO : (if 0 < n then (d.m.on.arm (n - 1)).1 else d.m.on).off = false := by split <;> first | exact MemM.arm_off _ _ | rfl
  have hA : n = 0 → (if 0 < n then (d.m.on.arm (n - 1)).1 else d.m.on).armed = false := by intro e; rw [if_neg (by omega)]; rfl
  obtain ⟨a1, a2⟩ := openM_sound hS hO hm
  unfold reset
  rw [if_neg (by omega)]
  simp only
  generalize openM (if 0 < n then (d.m.on.arm (n - 1)).1 else d.m.on) d.max = r at a1 a2 ⊢
  obtain ⟨m', c, e⟩ := r
  rcases a2 with ⟨a2, a3, a4⟩ | ⟨a2, a3⟩
  · obtain ⟨rfl, rfl⟩ := Prod.mk.inj a2
    exact ⟨a1, rfl, rfl, fun h0 => ⟨rfl, rfl, rfl, rfl, a3, by rw [← hA h0]; exact a4⟩⟩
  · obtain ⟨rfl, rfl⟩ := Prod.mk.inj a2
    exact ⟨a1, rfl, rfl, fun h0 => by rw [hA h0] at a3; cases a3⟩
/-- Between two rounds: idle, with V the last session that was ever begun. -/
structure Rest (d : DevM) (V : Int) : Prop where
  state : d.state = 1
  cell : d.cell = ⟨d.max, V, false⟩
  mem : d.m.Sound V
  off : d.m.off = false
/-- A round: perhaps armed, a session wished for, then awake again (perhaps cut there too), then awake for good. -/
def round (d : DevM) (cut n : Int) : DevM × Int × Int :=
  let g := if 0 ≤ cut then { d with m := (d.m.arm (cut % 9)).1 } else d
  let r := g.wish
  ((((r.1.reset n).1).reset 0).1, r.2.2, r.1.session)
theorem round_rises {d : DevM} {V : Int} (h : d.Rest V) (cut n : Int) (hn : 0 ≤ n) (hV : V < d.max) (hmax : d.max < 4294967296) :
    ∃ V', (d.round cut n).1.Rest V' ∧ (d.round cut n).1.p = d.p ∧ (d.round cut n).1.max = d.max ∧ (V' = V ∨ V' = V + 1) ∧ ((d.round cut n).2.1 = 0 → (d.round cut n).2.2 = V + 1 ∧ V' = V + 1) := by
  have h0 := h.mem.nonneg
  have hg : ∃ m, (if 0 ≤ cut then { d with m := (d.m.arm (cut % 9)).1 } else d) = { d with m := m } ∧ m.Sound V ∧ m.off = false := by
    split
    · exact ⟨_, rfl, h.mem.arm _, by rw [MemM.arm_off]; exact h.off⟩
    · exact ⟨d.m, rfl, h.mem, h.off⟩
  obtain ⟨m, hm, hS, hO⟩ := hg
  obtain ⟨w1, w2, w3⟩ := wish_sound (d := { d with m := m }) (V := V) h.state h.cell hS hO hV hmax
  unfold round
  rw [hm]
  simp only
  generalize wish { d with m := m } = r at w1 w2 w3 ⊢
  have hmx : r.1.max ≠ 0 := by rw [w2]; show d.max ≠ 0; omega
  have fin : ∀ V', r.1.m.Sound V' → Rest ((r.1.reset n).1.reset 0).1 V' ∧ ((r.1.reset n).1.reset 0).1.p = d.p ∧ ((r.1.reset n).1.reset 0).1.max = d.max := fun V' hV' => by
    obtain ⟨b1, b2, b3, _⟩ := reset_sound n hn hV' hmx
    obtain ⟨c1, c2, c3, c4⟩ := reset_sound (d := (r.1.reset n).1) 0 (by omega) b1 (by rw [b3]; exact hmx)
    obtain ⟨c4, c5, c6, c7, c8, _⟩ := c4 rfl
    exact ⟨⟨c5, by rw [c3]; exact c7, c1, c8⟩, by rw [c2, b2, w1], by rw [c3, b3, w2]⟩
  rcases w3 with ⟨e, s, hS'⟩ | ⟨e, s, hS'⟩
  · obtain ⟨f1, f2, f3⟩ := fin _ hS'
    exact ⟨V + 1, f1, f2, f3, .inr rfl, fun _ => ⟨s, rfl⟩⟩
  · obtain ⟨f1, f2, f3⟩ := fin _ hS'
    exact ⟨V, f1, f2, f3, .inl rfl, fun h => by rw [e] at h; cases h⟩
end DevM
end Go.Proofs.YtbkkfkbgcklkgaaGreat
