/- The base of the laws, part 17: contracts and plain lemmas, no statement. -/
import Derived.Test.YtbkkfkbgcklkgaaGreatBase16
import Derived.Deep.RegionHeld3
/- A device takes a value; the last unit. -/
namespace Go.Proofs.YtbkkfkbgcklkgaaGreat
open Go.RowKit
set_option maxHeartbeats 10000000
set_option maxRecDepth 100000

theorem devNext_any (B a mb : Nat) (m : DevM) (F : Nat → Prop) (kind code session number flags : Int) (sl : Value) (w : World) (hI : DevIs B w a mb m F) :
    Calls Tryz.prog 136 #[.pointer (some ⟨a, 0, none⟩), .agg #[.int .i64 kind, .int .u32 code, .int .u32 session, .int .u32 number, .int .i64 flags, sl]] w fun e w' => e = .returned (.bool (decide (m.state = 4 ∧ session = m.session ∧ m.number < number))) ∧ Below w.heap.size w w' := by
  obtain ⟨⟨κ, c, d, v, g, val, hH, hF⟩, hlo⟩ := hI
  have hb1 : Below w.heap.size w (w.alloc (.cells #[.int .i64 kind, .int .u32 code, .int .u32 session, .int .u32 number, .int .i64 flags, sl] 68)) := (Below.refl _ _).alloc (Nat.le_refl _) _
  have hc := (hH.below hb1).blk.cell
  unfold devCells at hc
  obtain ⟨r, Hr⟩ : ∃ r, Hid (r = decide (m.state = 4 ∧ session = m.session ∧ m.number < number)) := ⟨_, Lib.hid rfl⟩
  rw [← Hr.out]
  by_cases h4 : m.state = 4
  · rw [h4] at hc
    by_cases hs : m.session = session
    · have gs : (m.session == session) = true := by simpa using hs
      by_cases hn : m.number < number
      · have er : r = true := by rw [Hr.out]; simp [h4, hs, hn]
        subst er
        clear Hr
        go_enter Tryz.func136, Tryz.ntmps136
        go_wp2_with fail
        go_big_quiet (fail)
        go_wp2_with fail
        go_ret
        exact ⟨rfl, belowN hb1 _⟩
      · have er : r = false := by rw [Hr.out]; simp [hn]
        subst er
        clear Hr
        go_enter Tryz.func136, Tryz.ntmps136
        go_wp2_with fail
        go_big_quiet (fail)
        go_wp2_with fail
        go_ret
        exact ⟨by simp [hn], belowN hb1 _⟩
    · have gs : (m.session == session) = false := by simpa using hs
      have er : r = false := by rw [Hr.out]; simp [Ne.symm hs]
      subst er
      clear Hr
      go_enter Tryz.func136, Tryz.ntmps136
      go_wp2_with fail
      go_big_quiet (fail)
      go_wp2_with fail
      go_ret
      exact ⟨rfl, belowN hb1 _⟩
  · have g4 : (m.state == 4) = false := by simpa using h4
    have er : r = false := by rw [Hr.out]; simp [h4]
    subst er
    clear Hr
    go_enter Tryz.func136, Tryz.ntmps136
    go_wp2_with fail
    go_big_quiet (fail)
    go_wp2_with fail
    go_ret
    exact ⟨rfl, belowN hb1 _⟩
theorem DevTo.of2 {B : Nat} {w w1 w2 : World} {a mb : Nat} {m m' : DevM} {F : Nat → Prop} (hI : DevIs B w a mb m F) (hk : Keep F w w1) (t : DevTo B w1 a mb m' F w2) : DevTo B w a mb m' F w2 := by
  obtain ⟨⟨κ, c, d, v, g, val, h, hF⟩, hlo⟩ := t.is_
  have s1 := hk.size
  have s2 := t.keep.size
  exact ⟨⟨⟨κ, c, d, v, g, val, h, fun x hx => (hF x hx).imp id (fun hx => ⟨by omega, hx.2⟩)⟩, grow_fb hI.lo hI.Ble (by omega)⟩, hk.andThen t.keep (fun _ _ h => h)⟩
theorem DevAp.of2 {B : Nat} {w w1 w2 : World} {a mb : Nat} {m m' : DevM} {F : Nat → Prop} {x : Value} (hI : DevIs B w a mb m F) (hk : Keep F w w1) (h : DevAp B w1 a mb m' F x w2) : DevAp B w a mb m' F x w2 := by
  obtain ⟨F', h1, h2, h3⟩ := h.ap
  have s1 := hk.size
  exact ⟨DevTo.of2 hI hk h.too, F', h1, fun y hy => (h2 y hy).imp id (fun hx => ⟨by omega, hx.2⟩), h3⟩
theorem devFed_any (B a mb : Nat) (m : DevM) (F : Nat → Prop) (kind code session number flags : Int) (data : List UInt8) (A : Option Addr) (cA Br : Nat) (w : World) (hI : DevIs B w a mb m F) (hi : m.Inv) (hn : m.number < number) (hn2 : number < m.p.count) (hfl : 0 ≤ flags ∧ flags ≤ 15) (h3 : (data.length : Int) = m.p.out)
    (hr : Reads w Br 1 A data.length (u8c data)) (hB : Br ≤ w.heap.size) (haf : ∀ ad, A = some ad → ¬ F ad.block) :
    Calls Tryz.prog 137 #[.pointer (some ⟨a, 0, none⟩), .agg #[.int .i64 kind, .int .u32 code, .int .u32 session, .int .u32 number, .int .i64 flags, .slice A data.length cA]] w fun e w' =>
      DevAns B w a mb F ({ ({ m with number := number } : DevM).alive with valve := ((({ m with number := number } : DevM).alive.valve.hold (decide (8 ≤ flags))).take data), sent := m.sent + 1 }, DevM.frame { ({ m with number := number } : DevM).alive with valve := ((({ m with number := number } : DevM).alive.valve.hold (decide (8 ≤ flags))).take data), sent := m.sent + 1 } 20 (m.sent + 1) (flagsM ((({ m with number := number } : DevM).alive.valve.hold (decide (8 ≤ flags))).take data) m.hold) m.value, 0) e w' := by
  have hI0 := hI
  obtain ⟨⟨κ, c, d, v, g, val, hH, hF⟩, hlo⟩ := hI
  have hfb := flag8 hfl.1 hfl.2
  have hp8 := hi.p8
  have hsn := hi.sent
  have hpos : 0 < data.length := by omega
  have hd8 : data.length ≤ 1000 := by omega
  have hwr : IntKind.u32.wrap (m.sent + 1) = m.sent + 1 := IntWalk.u32_in _ (by have := hi.number; omega)
  have H3 := Lib.hid h3
  have hki1 : ({ m with number := number } : DevM).Inv := { hi with number := by simp only; have := hi.number; omega, sent := by simp only; omega }
  have hki2 := hki1.alive
  obtain ⟨k5, Hk5⟩ : ∃ k, Hid (k = ({ ({ m with number := number } : DevM).alive with valve := ((({ m with number := number } : DevM).alive.valve.hold (decide (8 ≤ flags))).take data) } : DevM)) := ⟨_, Lib.hid rfl⟩
  have hki5 : ({ k5 with sent := m.sent + 1 } : DevM).Inv := by
    rw [Hk5.out]
    refine { hki2 with sent := ?_, vval := ?_, fr := fr_take (V := (DevM.alive _).valve.hold _) hki2.fr }
    · show 0 ≤ m.sent + 1 ∧ m.sent + 1 ≤ number
      omega
    · intro b hb
      simp only [ValveM.take] at hb
      split at hb
      · simp only [Option.some.injEq] at hb
        subst hb
        exact h3
      · exact hki2.vval b hb
  obtain ⟨of, Hof⟩ : ∃ of, Hid (of = DevM.frame { k5 with sent := m.sent + 1 } 20 (m.sent + 1) (flagsM k5.valve k5.hold) k5.value) := ⟨_, Lib.hid rfl⟩
  have hq : (({ ({ m with number := number } : DevM).alive with valve := ((({ m with number := number } : DevM).alive.valve.hold (decide (8 ≤ flags))).take data), sent := m.sent + 1 }, DevM.frame { ({ m with number := number } : DevM).alive with valve := ((({ m with number := number } : DevM).alive.valve.hold (decide (8 ≤ flags))).take data), sent := m.sent + 1 } 20 (m.sent + 1) (flagsM ((({ m with number := number } : DevM).alive.valve.hold (decide (8 ≤ flags))).take data) m.hold) m.value, 0) : DevM × List UInt8 × Int) = ({ k5 with sent := m.sent + 1 }, of, 0) := by
    rw [Hof.out, Hk5.out]
    rfl
  rw [hq]
  have hval5 : k5.value = m.value ∧ k5.sent = m.sent ∧ k5.p = m.p := by rw [Hk5.out]; exact ⟨rfl, rfl, rfl⟩
  have Hval5 := Lib.hid hval5
  clear hq hfl hp8 hsn h3 hval5
  have hb1 : Below w.heap.size w (w.alloc (.cells #[.int .i64 kind, .int .u32 code, .int .u32 session, .int .u32 number, .int .i64 flags, .slice A data.length cA] 68)) := (Below.refl _ _).alloc (Nat.le_refl _) _
  have hA1 := hH.below hb1
  have hI1 := hI0.below hb1
  have hU1 := Blk.new w 68 #[.int .i64 kind, .int .u32 code, .int .u32 session, .int .u32 number, .int .i64 flags, .slice A data.length cA]
  have huF : ∀ x, F x → x ≠ w.heap.size := fun x hx e => by have := (hlo x hx).2; omega
  obtain ⟨u, Hu⟩ : ∃ e, Hid (e = w.heap.size) := ⟨_, Lib.hid rfl⟩
  have hua : u ≠ a := by have := Hu.out; have := huF a hI0.Fa; omega
  have hs1 := hb1.size
  go_enter Tryz.func137, Tryz.ntmps137
  go_upto_region 1 with fail
  rw [← Hu.out] at hU1 huF ⊢
  generalize w.alloc (.cells #[.int .i64 kind, .int .u32 code, .int .u32 session, .int .u32 number, .int .i64 flags, .slice A data.length cA] 68) = W1 at *
  have hbA := hA1.blk
  have hc := hbA.cell
  have hf := hbA.frozen
  have huc := hU1.cell
  have hset : Blk (W1.setCell ⟨a, 13, none⟩ (.int .u32 number)) a 109 (devCells { m with number := number } mb c d v g val) := by simpa [devCells] using hbA.set_ 13 (.int .u32 number)
  have hA2 := hA1.upd (keepA W1) (by simp [World.setCell]) hset rfl rfl rfl rfl rfl rfl rfl
  have hk2 : Keep F w (W1.setCell ⟨a, 13, none⟩ (.int .u32 number)) := (Keep.of_below hb1).setCell (p := ⟨a, 13, none⟩) (fun _ => hI0.Fa) _
  have hI2 : DevIs B (W1.setCell ⟨a, 13, none⟩ (.int .u32 number)) a mb { m with number := number } F := DevIs.of hA2 hF (fun x hx => by have := hlo x hx; have := hk2.size; omega)
  have hU2 := hU1.far (p := ⟨a, 13, none⟩) hua (.int .u32 number)
  have hr2 := hr.keepS hk2 hB haf
  unfold devCells at hc
  go_wp2_with fail
  have hul := hU2.lt
  have hs2 := hk2.size
  generalize W1.setCell ⟨a, 13, none⟩ (.int .u32 number) = W2 at *
  have hgA : ∀ W', ∀ ad, A = some ad → ¬ grow F W2 W' ad.block := by
    intro W' ad e hx
    rcases hx with hx | hx
    · exact haf ad e hx
    · obtain ⟨ad', e', hb, _⟩ := hr.2 hpos
      rw [e] at e'
      injection e' with e'
      subst e'
      omega
  have hgu : ∀ W' x, grow F W2 W' x → x ≠ u := fun W' x hx e => hx.elim (fun hx => huF x hx e) (fun hx => by omega)
  clear hc hf huc hU1 hA1 hA2 hI1 hb1 hset hbA
  refine (devAlive_any B a mb { m with number := number } F W2 hI2).mono ?_
  rintro e W3 ⟨rfl, t3⟩
  have hU3 := (hU2.keep t3.keep (fun hx => huF _ hx rfl)).drew
  have hs3 := t3.keep.size
  have hr3 := hr2.keepS t3.keep (by omega) haf
  have T3 := t3.drew
  clear hU2 t3
  generalize hk3m : ({ m with number := number } : DevM).alive = k3 at *
  obtain ⟨⟨κ3, c3, d3, v3, g3, val3, h3, hF3⟩, hlo3⟩ := T3.is_
  have hbA := h3.blk
  have hc := hbA.cell
  unfold devCells at hc
  have huc := hU3.cell
  have hv3 := h3.valve
  have hc' : ∀ i, W3.cell? ⟨a, i, none⟩ = _ := hc
  have huc' : ∀ i, W3.cell? ⟨u, i, none⟩ = _ := huc
  clear hc huc
  go_wp2_with fail
  go_region_held3 (fun w' => w'.cell? ⟨a, 9, none⟩ = some (.pointer (some ⟨v3, 0, none⟩)) ∧ w'.cell? ⟨u, 4, none⟩ = some (.int .i64 flags)) (exact ⟨(hbA.cell 9).trans rfl, (hU3.cell 4).trans rfl⟩) (first
    | (go_at_call 168; refine (valveHold_any v3 _ _ (Of κ3 2) (decide (8 ≤ flags)) _ hv3).mono ?_; rintro e W4 ⟨rfl, hv4, hk4, hs4⟩; have t4 := h3.toValve T3.is_ hF3 hv4 hk4 (fun x hx => .inl hx); replace hU3 := hU3.keep t4.keep (fun hx => hgu _ _ hx rfl); replace hbA := (h3.onValve hv4 hk4 (fun x hx => .inl hx)).blk))
  have T4 := (DevTo.trans hI2 T3 t4).drew
  have hU4 := hU3.drew
  have hs4' : W3.heap.size ≤ W4.heap.size := hk4.size
  have hr4 := hr3.drew.keepS t4.keep (by show Br ≤ W3.heap.size; omega) (fun ad e => hgA _ ad e)
  clear hc' huc' hbA hs4 hv4 hk4 hv3 t4 hU3 T3 h3 hF3 hlo3
  obtain ⟨⟨κ4, c4, d4, v4, g4, val4, h4, hF4⟩, hlo4⟩ := T4.is_
  have hbA := h4.blk
  have hv4 := h4.valve
  have hr4d := hr4.drew
  have H3o := H3.out
  have hp3 : k3.p = m.p := by rw [← hk3m]; rfl
  have hc4' := hbA.cell
  unfold devCells at hc4'
  have hc4 : ∀ i, W4.cell? ⟨a, i, none⟩ = _ := hc4'
  have huc4 : ∀ i, W4.cell? ⟨u, i, none⟩ = _ := hU4.cell
  clear hc4'
  go_wp2_with fail
  go_region_held3 (fun w' => w'.cell? ⟨a, 9, none⟩ = some (.pointer (some ⟨v4, 0, none⟩)) ∧ w'.cell? ⟨u, 5, none⟩ = some (.slice A data.length cA)) (exact ⟨(hbA.cell 9).trans rfl, (hU4.cell 5).trans rfl⟩) (first
    | (go_at_call 169; refine (valveTake_any v4 _ _ (Of κ4 2) A cA Br data _ hv4 hr4d (by show Br ≤ W4.heap.size; omega) (by show k3.p.out = _; rw [hp3]; exact H3o.symm) hpos hd8).mono ?_; rintro e W5 ⟨rfl, hv5, hk5⟩; have t5 := h4.toValve T4.is_ hF4 hv5 hk5 (fun x hx => hx); replace hU4 := hU4.keep t5.keep (fun hx => hgu _ _ hx rfl); replace hbA := (h4.onValve hv5 hk5 (fun x hx => hx)).blk))
  have T5 := DevTo.trans hI2 T4 t5
  all_goals
    have hk5e : k5 = { k3 with valve := ((k3.valve.hold (decide (8 ≤ flags))).take data) } := Hk5.out
    replace T5 : DevTo B W2 a mb k5 F W5 := by rw [hk5e]; exact T5
    clear hbA hU4 t5 hv4 hr4d hr4 hc4 huc4 h4 hF4 hlo4 T4 hv5 hk5 hk5e
    obtain ⟨⟨κ5, c5, d5, v5, g5, val5, h5, hF5⟩, hlo5⟩ := T5.is_
    have hb5 := h5.blk
    have hc := hb5.cell
    have hf := hb5.frozen
    unfold devCells at hc
    rw [Hval5.out.2.1] at hc
    have hset : Blk (W5.setCell ⟨a, 14, none⟩ (.int .u32 (m.sent + 1))) a 109 (devCells { k5 with sent := m.sent + 1 } mb c5 d5 v5 g5 val5) := by simpa [devCells] using hb5.set_ 14 (.int .u32 (m.sent + 1))
    have T6 := (DevTo.trans hI2 T5 (h5.toUpd T5.is_ hF5 (keepA W5) (by simp [World.setCell]) hset rfl rfl rfl rfl rfl rfl rfl)).drew
    go_wp2_with fail
    generalize W5.setCell ⟨a, 14, none⟩ (.int .u32 (m.sent + 1)) = W6 at *
    clear hc hf hset hb5 h5 hF5 hlo5 T5
    obtain ⟨⟨κ6, c6, d6, v6, g6, val6, h6, hF6⟩, hlo6⟩ := T6.is_
    have hb6 := h6.blk
    have hown6 := h6.value
    simp only at hown6
    rw [Hval5.out.1] at hown6
    obtain ⟨A6, cap6, rfl⟩ := own_slice hown6
    have hlv : m.value.length ≤ 1000000 := by have := hi.value; have := hi.p8; omega
    have hcl := cloneByte_any A6 m.value.length cap6 m.value _ _ (fun e => reads_nn (Reads.of_own hown6) e) (Reads.of_own hown6) (Nat.le_refl _) hlv
    have hI6 := T6.is_
    have hal := hb6.lt
    have hs6 := T6.keep.size
    have hsn := hki5.sent
    simp only at hsn
    have hrep := fun W A c hI hr hB => devReply_any B a mb { k5 with sent := m.sent + 1 } (grow F W2 W6.drew) 20 (m.sent + 1) m.value A m.value.length c (W : World).heap.size W hI hki5 rfl (by have := hki5.number; simp only at this; omega) hr hB
    rw [if_pos rfl] at hrep
    have hof : DevM.frame { k5 with sent := m.sent + 1 } 20 (m.sent + 1) (flagsM ({ k5 with sent := m.sent + 1 } : DevM).valve ({ k5 with sent := m.sent + 1 } : DevM).hold) m.value = of := by rw [Hof.out, Hval5.out.1]
    rw [hof] at hrep
    go_region_held3 (fun w' => w'.cell? ⟨a, 14, none⟩ = some (.int .u32 (m.sent + 1)) ∧ w'.cell? ⟨a, 16, none⟩ = some (.slice A6 m.value.length cap6)) (exact ⟨(hb6.cell 14).trans rfl, (hb6.cell 16).trans rfl⟩) (first
      | (go_at_call 58; refine hcl.mono ?_; rintro e W7 ⟨x7, rfl, hown7, _, _, hb7⟩; obtain ⟨A7, c7, rfl⟩ := own_slice hown7; replace hb6 := hb6.below hb7 hal)
      | (go_at_call 164; refine (hrep _ _ _ (hI6.below hb7) (Reads.of_own hown7) (Nat.le_refl _)).mono ?_; rintro e W8 ⟨x8, rfl, hown8, hb8⟩; obtain ⟨A8, c8, rfl⟩ := own_slice hown8; replace hb6 := hb6.below hb8 (Nat.lt_of_lt_of_le hal hb7.size)))
    all_goals
      go_wp2_with fail
      have hb78 := hb7.trans (hb8.mono hb7.size)
      have hs7 := hb7.size
      refine bodyPost_ret (v := .tuple #[.slice A8 of.length c8, .int .i64 0]) (by simp [results, Tryz.results137, go_sem]) rfl ⟨_, rfl, own_base hown8 ?_, DevAp.of2 hI0 hk2 (DevAp.end_ hI2 T6 hb78 (own_base hown8 hs7))⟩
      have e6 : W6.drew.heap.size = W6.heap.size := rfl
      have := hk2.size
      omega
end Go.Proofs.YtbkkfkbgcklkgaaGreat
/- A device: the last unit; a unit is taken. -/
namespace Go.Proofs.YtbkkfkbgcklkgaaGreat
open Go.RowKit
set_option maxHeartbeats 10000000
set_option maxRecDepth 100000

theorem DevTo.wide {B : Nat} {w w' : World} {a mb : Nat} {m' : DevM} {F F' : Nat → Prop} (t : DevTo B w a mb m' F w') (hF : ∀ x, F x → F' x) (hlo : ∀ x, F' x → B ≤ x ∧ x < w.heap.size) (hB : B ≤ w.heap.size) : DevTo B w a mb m' F' w' := by
  obtain ⟨⟨κ, c, d, v, g, val, h, hκ⟩, _⟩ := t.is_
  exact ⟨⟨⟨κ, c, d, v, g, val, h, fun x hx => (hκ x hx).imp (hF x) id⟩, grow_fb hlo hB t.keep.size⟩, t.keep.mono (fun x _ hx => hF x hx)⟩
theorem DevAns.of2 {B : Nat} {w w1 : World} {a mb : Nat} {m : DevM} {F : Nat → Prop} {r : DevM × List UInt8 × Int} {e : Ending} {w' : World} (hI : DevIs B w a mb m F) (hb : Below w.heap.size w w1) (h : DevAns B w1 a mb F r e w') : DevAns B w a mb F r e w' := by
  obtain ⟨x, he, ho, t2⟩ := h
  exact ⟨x, he, own_base ho hb.size, DevAp.of2 hI (Keep.of_below hb) t2⟩
theorem devEnded_any (B a mb : Nat) (m : DevM) (F : Nat → Prop) (kind code session number flags : Int) (sl : Value) (w : World) (hI : DevIs B w a mb m F) (hi : m.Inv) (hn : m.number < number) (hn2 : number = m.p.count) (hlen : m.log.length < 1073741800) :
    Calls Tryz.prog 138 #[.pointer (some ⟨a, 0, none⟩), .agg #[.int .i64 kind, .int .u32 code, .int .u32 session, .int .u32 number, .int .i64 flags, sl]] w fun e w' =>
      DevAns B w a mb F ({ ({ (({ m with number := number } : DevM).alive).trip 80 with sent := m.p.count } : DevM).run false with state := 5 }, ({ (({ m with number := number } : DevM).alive).trip 80 with sent := m.p.count } : DevM).frame 21 m.p.count 0 [], 0) e w' := by
  have hI0 := hI
  obtain ⟨⟨κ, c, d, v, g, val, hH, hF⟩, hlo⟩ := hI
  have hp8 := hi.p8
  have hsn := hi.sent
  have hki1 : ({ m with number := number } : DevM).Inv := { hi with number := by simp only; omega, sent := by simp only; omega }
  have hki2 := hki1.alive.trip 80
  have hki3 : ({ (({ m with number := number } : DevM).alive).trip 80 with sent := m.p.count } : DevM).Inv := { hki2 with sent := by show 0 ≤ m.p.count ∧ m.p.count ≤ number; omega }
  obtain ⟨of, Hof⟩ : ∃ of, Hid (of = ({ (({ m with number := number } : DevM).alive).trip 80 with sent := m.p.count } : DevM).frame 21 m.p.count 0 []) := ⟨_, Lib.hid rfl⟩
  rw [← Hof.out]
  have hcn : 0 ≤ m.p.count ∧ m.p.count < 4294967296 := by omega
  clear hp8 hsn hn2
  have hb1 : Below w.heap.size w (w.alloc (.cells #[.int .i64 kind, .int .u32 code, .int .u32 session, .int .u32 number, .int .i64 flags, sl] 68)) := (Below.refl _ _).alloc (Nat.le_refl _) _
  have hA1 := hH.below hb1
  have hI1 := hI0.below hb1
  have hbA := hA1.blk
  have hc := hbA.cell
  have hf := hbA.frozen
  unfold devCells at hc
  have hset : Blk ((w.alloc (.cells #[.int .i64 kind, .int .u32 code, .int .u32 session, .int .u32 number, .int .i64 flags, sl] 68)).setCell ⟨a, 13, none⟩ (.int .u32 number)) a 109 (devCells { m with number := number } mb c d v g val) := by simpa [devCells] using hbA.set_ 13 (.int .u32 number)
  have T2 := DevTo.of2 hI0 (Keep.of_below hb1) (hA1.toUpd hI1 hF (keepA _) (by simp [World.setCell]) hset rfl rfl rfl rfl rfl rfl rfl)
  unfold DevAns
  go_enter Tryz.func138, Tryz.ntmps138
  go_wp2_with fail
  refine (devAlive_any B a mb { m with number := number } _ _ T2.is_).mono ?_
  rintro e W3 ⟨rfl, t3⟩
  have T3 := DevTo.trans hI0 T2 t3
  clear hc hf
  go_wp2_with fail
  refine (devTrip_any B a mb _ _ 80 W3 (by decide) T3.is_ (by show m.log.length < _; omega)).mono ?_
  rintro e W4 ⟨rfl, t4⟩
  have T4 := DevTo.trans hI0 T3 t4
  generalize hk4 : (({ m with number := number } : DevM).alive).trip 80 = k4 at *
  have hp4 : k4.p = m.p := by rw [← hk4]; rfl
  obtain ⟨⟨κ4, c4, d4, v4, g4, val4, h4, hF4⟩, hlo4⟩ := T4.is_
  have hb4 := h4.blk
  have hc := hb4.cell
  have hf := hb4.frozen
  unfold devCells at hc
  rw [hp4] at hc
  have hset4 : Blk (W4.setCell ⟨a, 14, none⟩ (.int .u32 m.p.count)) a 109 (devCells { k4 with sent := m.p.count } mb c4 d4 v4 g4 val4) := by simpa [devCells] using hb4.set_ 14 (.int .u32 m.p.count)
  have T5 := DevTo.trans hI0 T4 (h4.toUpd T4.is_ hF4 (keepA W4) (by simp [World.setCell]) hset4 rfl rfl rfl rfl rfl rfl rfl)
  have hc5 := hset4.cell
  unfold devCells at hc5
  simp only at hc5
  go_wp2_with fail
  have hrep := devNone_any B a mb { k4 with sent := m.p.count } _ 21 m.p.count _ T5.is_ hki3 hcn (by decide)
  rw [← Hof.out] at hrep
  generalize W4.setCell ⟨a, 14, none⟩ (.int .u32 m.p.count) = W5 at *
  clear hc hf hset4
  refine hrep.mono ?_
  rintro e W6 ⟨x6, rfl, hown6, hb6⟩
  obtain ⟨A6, c6, rfl⟩ := own_slice hown6
  have hI6 := T5.is_.below hb6
  obtain ⟨⟨κ6, c6', d6, v6, g6, val6, h6, hF6⟩, hlo6⟩ := hI6
  have hc6 := h6.blk.cell
  unfold devCells at hc6
  have hI6 : DevIs B W6 a mb { k4 with sent := m.p.count } (grow F w W5) := T5.is_.below hb6
  clear hc5
  go_wp2_with fail
  refine (valveRun_any v6 _ _ _ false W6 h6.valve).mono ?_
  rintro e W7 ⟨rfl, hv7, hk7, hs7⟩
  have t7 := h6.toValve hI6 hF6 hv7 hk7 (fun x hx => .inl hx)
  have h7 := h6.onValve hv7 hk7 (fun x hx => .inl hx)
  have hF7 : ∀ x, paint κ6 2 W6 W7 x ≠ none → grow (grow F w W5) W6 W7 x := paint_sub hF6
  have hb7 := h7.blk
  clear hs7 hc6
  have hc := hb7.cell
  have hf := hb7.frozen
  unfold devCells at hc
  simp only at hc
  have hset7 : Blk (W7.setCell ⟨a, 11, none⟩ (.int .i64 5)) a 109 (devCells { ({ k4 with sent := m.p.count } : DevM).run false with state := 5 } mb c6' d6 v6 g6 val6) := by simpa [devCells, DevM.run] using hb7.set_ 11 (.int .i64 5)
  have t8 := h7.toUpd t7.is_ hF7 (keepA W7) (by simp [World.setCell]) hset7 rfl rfl rfl rfl rfl rfl rfl
  have T8 := DevTo.trans hI6 t7 t8
  go_wp2_with fail
  generalize W7.setCell ⟨a, 11, none⟩ (.int .i64 5) = W8 at *
  have hs5 := T5.keep.size
  have hs6 := hb6.size
  refine bodyPost_ret (v := .tuple #[.slice A6 of.length c6, .int .i64 0]) (by simp [results, Tryz.results138, go_sem]) rfl ⟨_, rfl, own_base (ownsRow_keep hown6 T8.keep (fun x hx hg => ?_)) hs5, ?_⟩
  · have := (hown6.lt x hx).1
    rcases hg with hg | hg
    · have := (hI0.lo x hg).2; omega
    · omega
  · have T6 := DevTo.below hI0 T5 hb6
    have hs8 := T8.keep.size
    have Tz := DevTo.trans hI0 T6 (DevTo.wide T8 (fun x (hx : grow F w W5 x) => hx.elim .inl (fun hx => .inr ⟨hx.1, by omega⟩)) T6.is_.lo T6.is_.Ble)
    have hI8 := T8.is_
    subst hk4
    refine ⟨Tz, _, hI8, fun y hy => ?_, fun y hy hg => ?_⟩
    · rcases hy with (hy | hy) | hy
      · exact .inl hy
      · exact .inr ⟨hy.1, by omega⟩
      · exact .inr ⟨by omega, hy.2⟩
    · have h1 := hown6.lt y hy
      rcases hg with (hg | hg) | hg
      · have := (hI0.lo y hg).2; omega
      · omega
      · omega
/-- Where a device takes a unit (its data in a slice A). -/
structure DTake (B : Nat) (w : World) (a mb : Nat) (m : DevM) (F : Nat → Prop) (flags : Int) (data : List UInt8) (A : Option Addr) (Br : Nat) : Prop where
  is_ : DevIs B w a mb m F
  inv : m.Inv
  len : m.log.length < 1073741800
  rd : Reads w Br 1 A data.length (u8c data)
  rb : Br ≤ w.heap.size
  d8 : data.length ≤ 8
  fl : 0 ≤ flags ∧ flags ≤ 15
  af : ∀ ad, A = some ad → ¬ F ad.block
theorem DTake.below {B : Nat} {w w' : World} {a mb : Nat} {m : DevM} {F : Nat → Prop} {flags : Int} {data : List UInt8} {A : Option Addr} {Br : Nat} (h : DTake B w a mb m F flags data A Br) (hb : Below w.heap.size w w') : DTake B w' a mb m F flags data A Br :=
  { h with is_ := h.is_.below hb, rd := h.rd.below (hb.mono h.rb), rb := Nat.le_trans h.rb hb.size }
end Go.Proofs.YtbkkfkbgcklkgaaGreat
/- A device takes a unit: a wish. -/
namespace Go.Proofs.YtbkkfkbgcklkgaaGreat
open Go.RowKit
set_option maxHeartbeats 10000000
set_option maxRecDepth 100000

theorem devTake_param (B a mb : Nat) (m : DevM) (F : Nat → Prop) (code session number flags : Int) (data : List UInt8) (A : Option Addr) (cA Br : Nat) (w : World) (h : DTake B w a mb m F flags data A Br) :
    Calls Tryz.prog 95 #[.pointer (some ⟨a, 0, none⟩), .agg #[.int .i64 1, .int .u32 code, .int .u32 session, .int .u32 number, .int .i64 flags, .slice A data.length cA]] w fun e w' => DevAns B w a mb F (m.take ⟨1, code, session, number, flags, data⟩) e w' := by
  obtain ⟨q, Hq⟩ : ∃ q, Hid (q = m.take ⟨1, code, session, number, flags, data⟩) := ⟨_, Lib.hid rfl⟩
  rw [← Hq.out]
  have hI0 := h.is_
  have hb1 : Below w.heap.size w (w.alloc (.cells #[.int .i64 1, .int .u32 code, .int .u32 session, .int .u32 number, .int .i64 flags, .slice A data.length cA] 68)) := (Below.refl _ _).alloc (Nat.le_refl _) _
  have h1 := h.below hb1
  have hU := Blk.new w 68 #[.int .i64 1, .int .u32 code, .int .u32 session, .int .u32 number, .int .i64 flags, .slice A data.length cA]
  obtain ⟨⟨κ, c, d, v, g, val, hH, hF⟩, hlo⟩ := h.is_
  have hA1 := hH.below hb1
  unfold DevAns
  have hq : q = if data = m.p.sign then m.wish else m.odds 91 := by rw [Hq.out]; unfold DevM.take; rw [if_pos rfl]
  clear Hq
  go_enter Tryz.func95, Tryz.ntmps95
  go_upto_region 1 with fail
  obtain ⟨u, Hu⟩ : ∃ e, Hid (e = w.heap.size) := ⟨_, Lib.hid rfl⟩
  rw [← Hu.out] at hU ⊢
  generalize w.alloc (.cells #[.int .i64 1, .int .u32 code, .int .u32 session, .int .u32 number, .int .i64 flags, .slice A data.length cA] 68) = W1 at *
  have hc := hA1.blk.cell
  unfold devCells at hc
  have huc := hU.cell
  have hcall := devAsked_any B a mb m F 1 code session number flags data A cA Br W1 h1.is_ h.inv h.len h1.rd h1.rb (by have := h.d8; omega)
  rw [← hq] at hcall
  clear hq
  go_wp2_with fail
  refine (hcall).mono ?_
  rintro e W4 h4
  obtain ⟨x5, rfl, ho5, t5⟩ := DevAns.of2 hI0 hb1 h4
  obtain ⟨A5, c5, rfl⟩ := own_slice ho5
  go_wp2_with fail
  refine bodyPost_ret (v := .tuple #[.slice A5 q.2.1.length c5, .int .i64 q.2.2]) (by simp [results, Tryz.results95, go_sem]) rfl ⟨_, rfl, ho5, t5⟩
end Go.Proofs.YtbkkfkbgcklkgaaGreat
/- A device takes a unit: an echo. -/
namespace Go.Proofs.YtbkkfkbgcklkgaaGreat
open Go.RowKit
set_option maxHeartbeats 10000000
set_option maxRecDepth 100000

theorem devTake_echo (B a mb : Nat) (m : DevM) (F : Nat → Prop) (code session number flags : Int) (data : List UInt8) (A : Option Addr) (cA Br : Nat) (w : World) (h : DTake B w a mb m F flags data A Br) :
    Calls Tryz.prog 95 #[.pointer (some ⟨a, 0, none⟩), .agg #[.int .i64 2, .int .u32 code, .int .u32 session, .int .u32 number, .int .i64 flags, .slice A data.length cA]] w fun e w' => DevAns B w a mb F (m.take ⟨2, code, session, number, flags, data⟩) e w' := by
  obtain ⟨q, Hq⟩ : ∃ q, Hid (q = m.take ⟨2, code, session, number, flags, data⟩) := ⟨_, Lib.hid rfl⟩
  rw [← Hq.out]
  have hI0 := h.is_
  have hb1 : Below w.heap.size w (w.alloc (.cells #[.int .i64 2, .int .u32 code, .int .u32 session, .int .u32 number, .int .i64 flags, .slice A data.length cA] 68)) := (Below.refl _ _).alloc (Nat.le_refl _) _
  have h1 := h.below hb1
  have hU := Blk.new w 68 #[.int .i64 2, .int .u32 code, .int .u32 session, .int .u32 number, .int .i64 flags, .slice A data.length cA]
  obtain ⟨⟨κ, c, d, v, g, val, hH, hF⟩, hlo⟩ := h.is_
  have hA1 := hH.below hb1
  unfold DevAns
  go_enter Tryz.func95, Tryz.ntmps95
  go_upto_region 1 with fail
  obtain ⟨u, Hu⟩ : ∃ e, Hid (e = w.heap.size) := ⟨_, Lib.hid rfl⟩
  rw [← Hu.out] at hU ⊢
  generalize w.alloc (.cells #[.int .i64 2, .int .u32 code, .int .u32 session, .int .u32 number, .int .i64 flags, .slice A data.length cA] 68) = W1 at *
  have hc := hA1.blk.cell
  unfold devCells at hc
  have huc := hU.cell
  by_cases hs : session = m.session
  · subst hs
    by_cases s2 : m.state = 2
    · have hq : q = if data ≠ m.p.sign then m.odds 91 else ((if m.state = 2 then ({ m with state := 3 } : DevM).alive else m), (if m.state = 2 then ({ m with state := 3 } : DevM).alive else m).frame 18 0 0 [], 0) := by rw [Hq.out]; unfold DevM.take; rw [if_neg (by simp), if_pos ⟨rfl, rfl, .inl s2⟩]
      clear Hq
      rw [s2] at hc
      go_wp2_with fail
      go_big_quiet (fail)
      have h2 := h1.below (belowN (Below.refl W1.heap.size W1) nq)
      have hU2 := hU.drewN nq
      have hb2 := belowN hb1 nq
      generalize W1.drewN nq = W2 at *
      clear hc huc
      have huc := hU2.cell
      have hcall := devEchoed_any B a mb m F 2 code m.session number flags data A cA Br W2 h2.is_ h.inv h.len h2.rd h2.rb (by have := h.d8; omega)
      rw [← hq] at hcall
      clear hq
      go_wp2_with fail
      refine (hcall).mono ?_
      rintro e W4 h4
      obtain ⟨x5, rfl, ho5, t5⟩ := DevAns.of2 hI0 hb2 h4
      obtain ⟨A5, c5, rfl⟩ := own_slice ho5
      go_wp2_with fail
      refine bodyPost_ret (v := .tuple #[.slice A5 q.2.1.length c5, .int .i64 q.2.2]) (by simp [results, Tryz.results95, go_sem]) rfl ⟨_, rfl, ho5, t5⟩
    · have n2 : (m.state == 2) = false := by simpa using s2
      by_cases s3 : m.state = 3
      · have hq : q = if data ≠ m.p.sign then m.odds 91 else ((if m.state = 2 then ({ m with state := 3 } : DevM).alive else m), (if m.state = 2 then ({ m with state := 3 } : DevM).alive else m).frame 18 0 0 [], 0) := by rw [Hq.out]; unfold DevM.take; rw [if_neg (by simp), if_pos ⟨rfl, rfl, .inr s3⟩]
        clear Hq
        rw [s3] at hc
        go_wp2_with fail
        go_big_quiet (fail)
        have h2 := h1.below (belowN (Below.refl W1.heap.size W1) nq)
        have hU2 := hU.drewN nq
        have hb2 := belowN hb1 nq
        generalize W1.drewN nq = W2 at *
        clear hc huc
        have huc := hU2.cell
        have hcall := devEchoed_any B a mb m F 2 code m.session number flags data A cA Br W2 h2.is_ h.inv h.len h2.rd h2.rb (by have := h.d8; omega)
        rw [← hq] at hcall
        clear hq
        go_wp2_with fail
        refine (hcall).mono ?_
        rintro e W4 h4
        obtain ⟨x5, rfl, ho5, t5⟩ := DevAns.of2 hI0 hb2 h4
        obtain ⟨A5, c5, rfl⟩ := own_slice ho5
        go_wp2_with fail
        refine bodyPost_ret (v := .tuple #[.slice A5 q.2.1.length c5, .int .i64 q.2.2]) (by simp [results, Tryz.results95, go_sem]) rfl ⟨_, rfl, ho5, t5⟩
      · have n3 : (m.state == 3) = false := by simpa using s3
        have hq : q = m.odds 130 := by rw [Hq.out]; exact by unfold DevM.take; rw [if_neg (by simp), if_neg (by dsimp only; omega), if_neg (by dsimp only; omega), if_neg (by dsimp only; omega), if_neg (by dsimp only; omega)]
        clear Hq
        go_wp2_with fail
        go_big_quiet (fail)
        have h2 := h1.below (belowN (Below.refl W1.heap.size W1) nq)
        have hU2 := hU.drewN nq
        have hb2 := belowN hb1 nq
        generalize W1.drewN nq = W2 at *
        clear hc huc
        have huc := hU2.cell
        have hcall := devOdds_any B a mb m F 130 W2 h2.is_ h.inv (by have := h.len; omega)
        rw [← hq] at hcall
        clear hq
        go_wp2_with fail
        refine (hcall).mono ?_
        rintro e W4 h4
        obtain ⟨x5, rfl, ho5, t5⟩ := DevAns.of2 hI0 hb2 h4
        obtain ⟨A5, c5, rfl⟩ := own_slice ho5
        go_wp2_with fail
        refine bodyPost_ret (v := .tuple #[.slice A5 q.2.1.length c5, .int .i64 q.2.2]) (by simp [results, Tryz.results95, go_sem]) rfl ⟨_, rfl, ho5, t5⟩
  · have gs : (m.session == session) = false := by simpa using fun e => hs e.symm
    have ns : ¬ m.session = session := fun e => hs e.symm
    have hq : q = m.odds 130 := by rw [Hq.out]; exact by unfold DevM.take; rw [if_neg (by simp), if_neg (by dsimp only; omega), if_neg (by dsimp only; omega), if_neg (by dsimp only; omega), if_neg (by dsimp only; omega)]
    clear Hq
    go_wp2_with fail
    go_big_quiet (fail)
    have h2 := h1.below (belowN (Below.refl W1.heap.size W1) nq)
    have hU2 := hU.drewN nq
    have hb2 := belowN hb1 nq
    generalize W1.drewN nq = W2 at *
    clear hc huc
    have huc := hU2.cell
    have hcall := devOdds_any B a mb m F 130 W2 h2.is_ h.inv (by have := h.len; omega)
    rw [← hq] at hcall
    clear hq
    go_wp2_with fail
    refine (hcall).mono ?_
    rintro e W4 h4
    obtain ⟨x5, rfl, ho5, t5⟩ := DevAns.of2 hI0 hb2 h4
    obtain ⟨A5, c5, rfl⟩ := own_slice ho5
    go_wp2_with fail
    refine bodyPost_ret (v := .tuple #[.slice A5 q.2.1.length c5, .int .i64 q.2.2]) (by simp [results, Tryz.results95, go_sem]) rfl ⟨_, rfl, ho5, t5⟩
end Go.Proofs.YtbkkfkbgcklkgaaGreat
/- A device takes a unit: a start. -/
namespace Go.Proofs.YtbkkfkbgcklkgaaGreat
open Go.RowKit
set_option maxHeartbeats 10000000
set_option maxRecDepth 100000

theorem devTake_start (B a mb : Nat) (m : DevM) (F : Nat → Prop) (code session number flags : Int) (data : List UInt8) (A : Option Addr) (cA Br : Nat) (w : World) (h : DTake B w a mb m F flags data A Br) :
    Calls Tryz.prog 95 #[.pointer (some ⟨a, 0, none⟩), .agg #[.int .i64 3, .int .u32 code, .int .u32 session, .int .u32 number, .int .i64 flags, .slice A data.length cA]] w fun e w' => DevAns B w a mb F (m.take ⟨3, code, session, number, flags, data⟩) e w' := by
  obtain ⟨q, Hq⟩ : ∃ q, Hid (q = m.take ⟨3, code, session, number, flags, data⟩) := ⟨_, Lib.hid rfl⟩
  rw [← Hq.out]
  have hI0 := h.is_
  have hb1 : Below w.heap.size w (w.alloc (.cells #[.int .i64 3, .int .u32 code, .int .u32 session, .int .u32 number, .int .i64 flags, .slice A data.length cA] 68)) := (Below.refl _ _).alloc (Nat.le_refl _) _
  have h1 := h.below hb1
  have hU := Blk.new w 68 #[.int .i64 3, .int .u32 code, .int .u32 session, .int .u32 number, .int .i64 flags, .slice A data.length cA]
  obtain ⟨⟨κ, c, d, v, g, val, hH, hF⟩, hlo⟩ := h.is_
  have hA1 := hH.below hb1
  unfold DevAns
  go_enter Tryz.func95, Tryz.ntmps95
  go_upto_region 1 with fail
  obtain ⟨u, Hu⟩ : ∃ e, Hid (e = w.heap.size) := ⟨_, Lib.hid rfl⟩
  rw [← Hu.out] at hU ⊢
  generalize w.alloc (.cells #[.int .i64 3, .int .u32 code, .int .u32 session, .int .u32 number, .int .i64 flags, .slice A data.length cA] 68) = W1 at *
  have hc := hA1.blk.cell
  unfold devCells at hc
  have huc := hU.cell
  by_cases hs : session = m.session
  · subst hs
    by_cases s3 : m.state = 3
    · have hq : q = ((if m.state = 3 then (({ m with state := 4 } : DevM).run true).alive else m), (if m.state = 3 then (({ m with state := 4 } : DevM).run true).alive else m).frame 19 0 0 [], 0) := by rw [Hq.out]; unfold DevM.take; rw [if_neg (by simp), if_neg (by dsimp only; omega), if_pos ⟨rfl, rfl, .inl s3⟩]
      clear Hq
      rw [s3] at hc
      go_wp2_with fail
      go_big_quiet (fail)
      have h2 := h1.below (belowN (Below.refl W1.heap.size W1) nq)
      have hU2 := hU.drewN nq
      have hb2 := belowN hb1 nq
      generalize W1.drewN nq = W2 at *
      clear hc huc
      have huc := hU2.cell
      have hcall := devStarted_any B a mb m F W2 h2.is_ h.inv
      rw [← hq] at hcall
      clear hq
      go_wp2_with fail
      refine (hcall).mono ?_
      rintro e W4 h4
      obtain ⟨x5, rfl, ho5, t5⟩ := DevAns.of2 hI0 hb2 h4
      obtain ⟨A5, c5, rfl⟩ := own_slice ho5
      go_wp2_with fail
      refine bodyPost_ret (v := .tuple #[.slice A5 q.2.1.length c5, .int .i64 q.2.2]) (by simp [results, Tryz.results95, go_sem]) rfl ⟨_, rfl, ho5, t5⟩
    · have n3 : (m.state == 3) = false := by simpa using s3
      by_cases s4 : m.state = 4
      · have g4 : (m.state == 4) = true := by simpa using s4
        by_cases hn : m.number = 0
        · have hq : q = ((if m.state = 3 then (({ m with state := 4 } : DevM).run true).alive else m), (if m.state = 3 then (({ m with state := 4 } : DevM).run true).alive else m).frame 19 0 0 [], 0) := by rw [Hq.out]; unfold DevM.take; rw [if_neg (by simp), if_neg (by dsimp only; omega), if_pos ⟨rfl, rfl, .inr ⟨s4, hn⟩⟩]
          clear Hq
          rw [s4, hn] at hc
          go_wp2_with fail
          go_big_quiet (fail)
          have h2 := h1.below (belowN (Below.refl W1.heap.size W1) nq)
          have hU2 := hU.drewN nq
          have hb2 := belowN hb1 nq
          generalize W1.drewN nq = W2 at *
          clear hc huc
          have huc := hU2.cell
          have hcall := devStarted_any B a mb m F W2 h2.is_ h.inv
          rw [← hq] at hcall
          clear hq
          go_wp2_with fail
          refine (hcall).mono ?_
          rintro e W4 h4
          obtain ⟨x5, rfl, ho5, t5⟩ := DevAns.of2 hI0 hb2 h4
          obtain ⟨A5, c5, rfl⟩ := own_slice ho5
          go_wp2_with fail
          refine bodyPost_ret (v := .tuple #[.slice A5 q.2.1.length c5, .int .i64 q.2.2]) (by simp [results, Tryz.results95, go_sem]) rfl ⟨_, rfl, ho5, t5⟩
        · have gn : (m.number == 0) = false := by simpa using hn
          rw [s4] at hc
          have hq : q = m.odds 130 := by rw [Hq.out]; exact by unfold DevM.take; rw [if_neg (by simp), if_neg (by dsimp only; omega), if_neg (by dsimp only; omega), if_neg (by dsimp only; omega), if_neg (by dsimp only; omega)]
          clear Hq
          go_wp2_with fail
          go_big_quiet (fail)
          have h2 := h1.below (belowN (Below.refl W1.heap.size W1) nq)
          have hU2 := hU.drewN nq
          have hb2 := belowN hb1 nq
          generalize W1.drewN nq = W2 at *
          clear hc huc
          have huc := hU2.cell
          have hcall := devOdds_any B a mb m F 130 W2 h2.is_ h.inv (by have := h.len; omega)
          rw [← hq] at hcall
          clear hq
          go_wp2_with fail
          refine (hcall).mono ?_
          rintro e W4 h4
          obtain ⟨x5, rfl, ho5, t5⟩ := DevAns.of2 hI0 hb2 h4
          obtain ⟨A5, c5, rfl⟩ := own_slice ho5
          go_wp2_with fail
          refine bodyPost_ret (v := .tuple #[.slice A5 q.2.1.length c5, .int .i64 q.2.2]) (by simp [results, Tryz.results95, go_sem]) rfl ⟨_, rfl, ho5, t5⟩
      · have n4 : (m.state == 4) = false := by simpa using s4
        have hq : q = m.odds 130 := by rw [Hq.out]; exact by unfold DevM.take; rw [if_neg (by simp), if_neg (by dsimp only; omega), if_neg (by dsimp only; omega), if_neg (by dsimp only; omega), if_neg (by dsimp only; omega)]
        clear Hq
        go_wp2_with fail
        go_big_quiet (fail)
        have h2 := h1.below (belowN (Below.refl W1.heap.size W1) nq)
        have hU2 := hU.drewN nq
        have hb2 := belowN hb1 nq
        generalize W1.drewN nq = W2 at *
        clear hc huc
        have huc := hU2.cell
        have hcall := devOdds_any B a mb m F 130 W2 h2.is_ h.inv (by have := h.len; omega)
        rw [← hq] at hcall
        clear hq
        go_wp2_with fail
        refine (hcall).mono ?_
        rintro e W4 h4
        obtain ⟨x5, rfl, ho5, t5⟩ := DevAns.of2 hI0 hb2 h4
        obtain ⟨A5, c5, rfl⟩ := own_slice ho5
        go_wp2_with fail
        refine bodyPost_ret (v := .tuple #[.slice A5 q.2.1.length c5, .int .i64 q.2.2]) (by simp [results, Tryz.results95, go_sem]) rfl ⟨_, rfl, ho5, t5⟩
  · have gs : (m.session == session) = false := by simpa using fun e => hs e.symm
    have ns : ¬ m.session = session := fun e => hs e.symm
    have hq : q = m.odds 130 := by rw [Hq.out]; exact by unfold DevM.take; rw [if_neg (by simp), if_neg (by dsimp only; omega), if_neg (by dsimp only; omega), if_neg (by dsimp only; omega), if_neg (by dsimp only; omega)]
    clear Hq
    go_wp2_with fail
    go_big_quiet (fail)
    have h2 := h1.below (belowN (Below.refl W1.heap.size W1) nq)
    have hU2 := hU.drewN nq
    have hb2 := belowN hb1 nq
    generalize W1.drewN nq = W2 at *
    clear hc huc
    have huc := hU2.cell
    have hcall := devOdds_any B a mb m F 130 W2 h2.is_ h.inv (by have := h.len; omega)
    rw [← hq] at hcall
    clear hq
    go_wp2_with fail
    refine (hcall).mono ?_
    rintro e W4 h4
    obtain ⟨x5, rfl, ho5, t5⟩ := DevAns.of2 hI0 hb2 h4
    obtain ⟨A5, c5, rfl⟩ := own_slice ho5
    go_wp2_with fail
    refine bodyPost_ret (v := .tuple #[.slice A5 q.2.1.length c5, .int .i64 q.2.2]) (by simp [results, Tryz.results95, go_sem]) rfl ⟨_, rfl, ho5, t5⟩
end Go.Proofs.YtbkkfkbgcklkgaaGreat
/- A device takes a unit: what its regions read. -/
namespace Go.Proofs.YtbkkfkbgcklkgaaGreat
open Go.RowKit
set_option maxHeartbeats 10000000
set_option maxRecDepth 100000

theorem devSU {w : World} {a mb c d v g u : Nat} {m : DevM} {val : Value} {x0 x1 x2 x3 x4 x5 : Value} (h : Blk w a 109 (devCells m mb c d v g val)) (hu : Blk w u 68 #[x0, x1, x2, x3, x4, x5]) :
    w.cell? ⟨a, 1, none⟩ = some (.int .i64 m.p.out) ∧ w.cell? ⟨a, 4, none⟩ = some (.int .u32 m.p.count) ∧ w.cell? ⟨u, 0, none⟩ = some x0 ∧ w.cell? ⟨u, 1, none⟩ = some x1 ∧ w.cell? ⟨u, 2, none⟩ = some x2 ∧ w.cell? ⟨u, 3, none⟩ = some x3 ∧ w.cell? ⟨u, 4, none⟩ = some x4 ∧ w.cell? ⟨u, 5, none⟩ = some x5 :=
  ⟨(h.cell 1).trans rfl, (h.cell 4).trans rfl, (hu.cell 0).trans rfl, (hu.cell 1).trans rfl, (hu.cell 2).trans rfl, (hu.cell 3).trans rfl, (hu.cell 4).trans rfl, (hu.cell 5).trans rfl⟩
end Go.Proofs.YtbkkfkbgcklkgaaGreat
/- A device takes a unit: a value (1). -/
namespace Go.Proofs.YtbkkfkbgcklkgaaGreat
open Go.RowKit
set_option maxHeartbeats 10000000
set_option maxRecDepth 100000

theorem devTake_data1 (B a mb : Nat) (m : DevM) (F : Nat → Prop) (code session number flags : Int) (data : List UInt8) (A : Option Addr) (cA Br : Nat) (w : World) (h : DTake B w a mb m F flags data A Br)
    (hnext : m.state = 4 ∧ session = m.session ∧ m.number < number) (hl : (data.length : Int) = m.p.out) (hn : number < m.p.count) :
    Calls Tryz.prog 95 #[.pointer (some ⟨a, 0, none⟩), .agg #[.int .i64 4, .int .u32 code, .int .u32 session, .int .u32 number, .int .i64 flags, .slice A data.length cA]] w fun e w' => DevAns B w a mb F (m.take ⟨4, code, session, number, flags, data⟩) e w' := by
  have H0hnext := Lib.hid hnext
  have H0hl := Lib.hid hl
  have H0hn := Lib.hid hn
  clear hnext hl hn
  obtain ⟨q, Hq⟩ : ∃ q, Hid (q = m.take ⟨4, code, session, number, flags, data⟩) := ⟨_, Lib.hid rfl⟩
  rw [← Hq.out]
  have hI0 := h.is_
  have hb1 : Below w.heap.size w (w.alloc (.cells #[.int .i64 4, .int .u32 code, .int .u32 session, .int .u32 number, .int .i64 flags, .slice A data.length cA] 68)) := (Below.refl _ _).alloc (Nat.le_refl _) _
  have h1 := h.below hb1
  have hU := Blk.new w 68 #[.int .i64 4, .int .u32 code, .int .u32 session, .int .u32 number, .int .i64 flags, .slice A data.length cA]
  obtain ⟨⟨κ, c, d, v, g, val, hH, hF⟩, hlo⟩ := h.is_
  have hA1 := hH.below hb1
  unfold DevAns
  go_enter Tryz.func95, Tryz.ntmps95
  go_upto_region 1 with fail
  obtain ⟨u, Hu⟩ : ∃ e, Hid (e = w.heap.size) := ⟨_, Lib.hid rfl⟩
  rw [← Hu.out] at hU ⊢
  generalize w.alloc (.cells #[.int .i64 4, .int .u32 code, .int .u32 session, .int .u32 number, .int .i64 flags, .slice A data.length cA] 68) = W1 at *
  have hc := hA1.blk.cell
  unfold devCells at hc
  have huc := hU.cell
  have hnx := devNext_any B a mb m F 4 code session number flags (.slice A data.length cA) W1.drew (h1.is_.below (Below.refl W1.heap.size W1).drew)
  have hb1d := hb1.drew
  have hbA := hA1.drew.blk
  replace hU := hU.drew
  have hul := hU.lt
  have hal := hbA.lt
  have hnext := H0hnext.out
  have hl := H0hl.out
  have hn := H0hn.out
  rw [decide_eq_true hnext] at hnx
  have gl : ((data.length : Int) == m.p.out) = true := by simpa using hl
  have hq : q = ({ ({ m with number := number } : DevM).alive with valve := ((({ m with number := number } : DevM).alive.valve.hold (decide (8 ≤ flags))).take data), sent := m.sent + 1 }, DevM.frame { ({ m with number := number } : DevM).alive with valve := ((({ m with number := number } : DevM).alive.valve.hold (decide (8 ≤ flags))).take data), sent := m.sent + 1 } 20 (m.sent + 1) (flagsM ((({ m with number := number } : DevM).alive.valve.hold (decide (8 ≤ flags))).take data) m.hold) m.value, 0) := by
    rw [Hq.out]; unfold DevM.take; rw [if_neg (by simp), if_neg (by dsimp only; omega), if_neg (by dsimp only; omega), if_pos ⟨rfl, hnext.1, hnext.2.1, hnext.2.2, hl, hn⟩]; rfl
  have Hq2 := Lib.hid hq
  have Hl := Lib.hid hl
  have Hnx := Lib.hid hnext
  clear Hq hq hnext hl
  go_wp2_with fail
  go_region_held3 (fun w' => w'.cell? ⟨a, 1, none⟩ = some (.int .i64 m.p.out) ∧ w'.cell? ⟨a, 4, none⟩ = some (.int .u32 m.p.count) ∧ w'.cell? ⟨u, 0, none⟩ = some (.int .i64 4) ∧ w'.cell? ⟨u, 1, none⟩ = some (.int .u32 code) ∧ w'.cell? ⟨u, 2, none⟩ = some (.int .u32 session) ∧ w'.cell? ⟨u, 3, none⟩ = some (.int .u32 number) ∧ w'.cell? ⟨u, 4, none⟩ = some (.int .i64 flags) ∧ w'.cell? ⟨u, 5, none⟩ = some (.slice A data.length cA)) (with_reducible (first | exact devSU hbA hU)) (first
    | (go_at_call 136; refine hnx.mono ?_; rintro e W2 ⟨rfl, hbn⟩; replace hbA := hbA.below hbn hal; replace hU := hU.below hbn hul))
  all_goals
    have hb2 := hb1d.trans (hbn.mono hb1d.size)
    have h2 := h.below hb2
    have huc := hU.cell
    have hcall := devFed_any B a mb m F 4 code session number flags data A cA Br W2 h2.is_ h.inv Hnx.out.2.2 hn h.fl Hl.out h2.rd h2.rb h.af
    rw [← Hq2.out] at hcall
    go_wp2_with fail
    refine (hcall).mono ?_
    rintro e W4 h4
    obtain ⟨x5, rfl, ho5, t5⟩ := DevAns.of2 hI0 hb2 h4
    obtain ⟨A5, c5, rfl⟩ := own_slice ho5
    go_wp2_with fail
    refine bodyPost_ret (v := .tuple #[.slice A5 q.2.1.length c5, .int .i64 q.2.2]) (by simp [results, Tryz.results95, go_sem]) rfl ⟨_, rfl, ho5, t5⟩
end Go.Proofs.YtbkkfkbgcklkgaaGreat
/- A device takes a unit: a value (2). -/
namespace Go.Proofs.YtbkkfkbgcklkgaaGreat
open Go.RowKit
set_option maxHeartbeats 10000000
set_option maxRecDepth 100000

theorem devTake_data2 (B a mb : Nat) (m : DevM) (F : Nat → Prop) (code session number flags : Int) (data : List UInt8) (A : Option Addr) (cA Br : Nat) (w : World) (h : DTake B w a mb m F flags data A Br)
    (hnext : m.state = 4 ∧ session = m.session ∧ m.number < number) (hl : (data.length : Int) = m.p.out) (hn : ¬ number < m.p.count) :
    Calls Tryz.prog 95 #[.pointer (some ⟨a, 0, none⟩), .agg #[.int .i64 4, .int .u32 code, .int .u32 session, .int .u32 number, .int .i64 flags, .slice A data.length cA]] w fun e w' => DevAns B w a mb F (m.take ⟨4, code, session, number, flags, data⟩) e w' := by
  have H0hnext := Lib.hid hnext
  have H0hl := Lib.hid hl
  have H0hn := Lib.hid hn
  clear hnext hl hn
  obtain ⟨q, Hq⟩ : ∃ q, Hid (q = m.take ⟨4, code, session, number, flags, data⟩) := ⟨_, Lib.hid rfl⟩
  rw [← Hq.out]
  have hI0 := h.is_
  have hb1 : Below w.heap.size w (w.alloc (.cells #[.int .i64 4, .int .u32 code, .int .u32 session, .int .u32 number, .int .i64 flags, .slice A data.length cA] 68)) := (Below.refl _ _).alloc (Nat.le_refl _) _
  have h1 := h.below hb1
  have hU := Blk.new w 68 #[.int .i64 4, .int .u32 code, .int .u32 session, .int .u32 number, .int .i64 flags, .slice A data.length cA]
  obtain ⟨⟨κ, c, d, v, g, val, hH, hF⟩, hlo⟩ := h.is_
  have hA1 := hH.below hb1
  unfold DevAns
  go_enter Tryz.func95, Tryz.ntmps95
  go_upto_region 1 with fail
  obtain ⟨u, Hu⟩ : ∃ e, Hid (e = w.heap.size) := ⟨_, Lib.hid rfl⟩
  rw [← Hu.out] at hU ⊢
  generalize w.alloc (.cells #[.int .i64 4, .int .u32 code, .int .u32 session, .int .u32 number, .int .i64 flags, .slice A data.length cA] 68) = W1 at *
  have hc := hA1.blk.cell
  unfold devCells at hc
  have huc := hU.cell
  have hnx := devNext_any B a mb m F 4 code session number flags (.slice A data.length cA) W1.drew (h1.is_.below (Below.refl W1.heap.size W1).drew)
  have hb1d := hb1.drew
  have hbA := hA1.drew.blk
  replace hU := hU.drew
  have hul := hU.lt
  have hal := hbA.lt
  have hnext := H0hnext.out
  have hl := H0hl.out
  have hn := H0hn.out
  rw [decide_eq_true hnext] at hnx
  have gl : ((data.length : Int) == m.p.out) = true := by simpa using hl
  have hq : q = m.odds 130 := by
    rw [Hq.out]; unfold DevM.take; rw [if_neg (by simp), if_neg (by dsimp only; omega), if_neg (by dsimp only; omega), if_neg (by dsimp only; omega), if_neg (by dsimp only; omega)]
  clear Hq hnext hl
  go_wp2_with fail
  go_region_held3 (fun w' => w'.cell? ⟨a, 1, none⟩ = some (.int .i64 m.p.out) ∧ w'.cell? ⟨a, 4, none⟩ = some (.int .u32 m.p.count) ∧ w'.cell? ⟨u, 0, none⟩ = some (.int .i64 4) ∧ w'.cell? ⟨u, 1, none⟩ = some (.int .u32 code) ∧ w'.cell? ⟨u, 2, none⟩ = some (.int .u32 session) ∧ w'.cell? ⟨u, 3, none⟩ = some (.int .u32 number) ∧ w'.cell? ⟨u, 4, none⟩ = some (.int .i64 flags) ∧ w'.cell? ⟨u, 5, none⟩ = some (.slice A data.length cA)) (with_reducible (first | exact devSU hbA hU)) (first
    | (go_at_call 136; refine hnx.mono ?_; rintro e W2 ⟨rfl, hbn⟩; replace hbA := hbA.below hbn hal; replace hU := hU.below hbn hul))
  all_goals
    have hb2 := hb1d.trans (hbn.mono hb1d.size)
    have h2 := h.below hb2
    have huc := hU.cell
    have hcall := devOdds_any B a mb m F 130 W2 h2.is_ h.inv (by have := h.len; omega)
    rw [← hq] at hcall
    clear hq
    go_wp2_with fail
    refine (hcall).mono ?_
    rintro e W4 h4
    obtain ⟨x5, rfl, ho5, t5⟩ := DevAns.of2 hI0 hb2 h4
    obtain ⟨A5, c5, rfl⟩ := own_slice ho5
    go_wp2_with fail
    refine bodyPost_ret (v := .tuple #[.slice A5 q.2.1.length c5, .int .i64 q.2.2]) (by simp [results, Tryz.results95, go_sem]) rfl ⟨_, rfl, ho5, t5⟩
end Go.Proofs.YtbkkfkbgcklkgaaGreat
/- A device takes a unit: a value (3). -/
namespace Go.Proofs.YtbkkfkbgcklkgaaGreat
open Go.RowKit
set_option maxHeartbeats 10000000
set_option maxRecDepth 100000

theorem devTake_data3 (B a mb : Nat) (m : DevM) (F : Nat → Prop) (code session number flags : Int) (data : List UInt8) (A : Option Addr) (cA Br : Nat) (w : World) (h : DTake B w a mb m F flags data A Br)
    (hnext : m.state = 4 ∧ session = m.session ∧ m.number < number) (hl : ¬ (data.length : Int) = m.p.out) :
    Calls Tryz.prog 95 #[.pointer (some ⟨a, 0, none⟩), .agg #[.int .i64 4, .int .u32 code, .int .u32 session, .int .u32 number, .int .i64 flags, .slice A data.length cA]] w fun e w' => DevAns B w a mb F (m.take ⟨4, code, session, number, flags, data⟩) e w' := by
  have H0hnext := Lib.hid hnext
  have H0hl := Lib.hid hl
  clear hnext hl
  obtain ⟨q, Hq⟩ : ∃ q, Hid (q = m.take ⟨4, code, session, number, flags, data⟩) := ⟨_, Lib.hid rfl⟩
  rw [← Hq.out]
  have hI0 := h.is_
  have hb1 : Below w.heap.size w (w.alloc (.cells #[.int .i64 4, .int .u32 code, .int .u32 session, .int .u32 number, .int .i64 flags, .slice A data.length cA] 68)) := (Below.refl _ _).alloc (Nat.le_refl _) _
  have h1 := h.below hb1
  have hU := Blk.new w 68 #[.int .i64 4, .int .u32 code, .int .u32 session, .int .u32 number, .int .i64 flags, .slice A data.length cA]
  obtain ⟨⟨κ, c, d, v, g, val, hH, hF⟩, hlo⟩ := h.is_
  have hA1 := hH.below hb1
  unfold DevAns
  go_enter Tryz.func95, Tryz.ntmps95
  go_upto_region 1 with fail
  obtain ⟨u, Hu⟩ : ∃ e, Hid (e = w.heap.size) := ⟨_, Lib.hid rfl⟩
  rw [← Hu.out] at hU ⊢
  generalize w.alloc (.cells #[.int .i64 4, .int .u32 code, .int .u32 session, .int .u32 number, .int .i64 flags, .slice A data.length cA] 68) = W1 at *
  have hc := hA1.blk.cell
  unfold devCells at hc
  have huc := hU.cell
  have hnx := devNext_any B a mb m F 4 code session number flags (.slice A data.length cA) W1.drew (h1.is_.below (Below.refl W1.heap.size W1).drew)
  have hb1d := hb1.drew
  have hbA := hA1.drew.blk
  replace hU := hU.drew
  have hul := hU.lt
  have hal := hbA.lt
  have hnext := H0hnext.out
  have hl := H0hl.out
  rw [decide_eq_true hnext] at hnx
  have gl : ((data.length : Int) == m.p.out) = false := by simpa using hl
  have hq : q = m.odds 130 := by
    rw [Hq.out]; unfold DevM.take; rw [if_neg (by simp), if_neg (by dsimp only; omega), if_neg (by dsimp only; omega), if_neg (by dsimp only; omega), if_neg (by dsimp only; omega)]
  clear Hq hnext
  go_wp2_with fail
  refine wp_region_held_drew (S := (fun w' => w'.cell? ⟨a, 1, none⟩ = some (.int .i64 m.p.out) ∧ w'.cell? ⟨a, 4, none⟩ = some (.int .u32 m.p.count) ∧ w'.cell? ⟨u, 0, none⟩ = some (.int .i64 4) ∧ w'.cell? ⟨u, 1, none⟩ = some (.int .u32 code) ∧ w'.cell? ⟨u, 2, none⟩ = some (.int .u32 session) ∧ w'.cell? ⟨u, 3, none⟩ = some (.int .u32 number) ∧ w'.cell? ⟨u, 4, none⟩ = some (.int .i64 flags) ∧ w'.cell? ⟨u, 5, none⟩ = some (.slice A data.length cA))) (by kernel_rfl) ?_ (fun hHeld => ?_)
  · exact devSU hbA hU
  refine wpAnyH_take (i := 0) (v := ?_) rfl (by kernel_rfl) (by kernel_rfl) (by kernel_rfl) (fun _ _ _ h => h) (Or.inl ⟨by rfl, ?_⟩) (by assumption) ?_
  rotate_left
  · intro w hSw
    try dsimp only at hSw
    go_simp
    try with_reducible rfl
  change wpAnyH _ _ _ _ _ _ _ (Act.put _ (some 86) _) _
  try simp only [Act.put, List.setIfInBounds_toArray, List.set_cons_zero, List.set_cons_succ]
  refine wpAnyH_take (i := 1) (v := ?_) rfl (by kernel_rfl) (by kernel_rfl) (by kernel_rfl) (fun _ _ _ h => h) (Or.inl ⟨by rfl, ?_⟩) (by assumption) ?_
  rotate_left
  · intro w hSw
    try dsimp only at hSw
    go_simp
    try with_reducible rfl
  change wpAnyH _ _ _ _ _ _ _ (Act.put _ (some 87) _) _
  try simp only [Act.put, List.setIfInBounds_toArray, List.set_cons_zero, List.set_cons_succ]
  refine wpAnyH_ready (rs := [2]) (by kernel_rfl) (by simp) ?_
  refine AllReadyH.cons rfl (fun K hK => ?_) AllReadyH.nil
  go_simp
  go_at_call 136
  refine hnx.mono ?_
  rintro e W2 ⟨rfl, hbn⟩
  have hbA2 := hbA.below hbn hal
  have hU2 := hU.below hbn hul
  refine hK.out _ _ (devSU hbA2 hU2) (fun hHeld2 => ?_)
  clear hK K hHeld
  try simp only [Act.put, List.setIfInBounds_toArray, List.set_cons_zero, List.set_cons_succ]
  refine wpAnyH_take (i := 3) (v := ?_) rfl (by kernel_rfl) (by kernel_rfl) (by kernel_rfl) (fun _ _ _ h => h) (Or.inl ⟨by rfl, ?_⟩) (by assumption) ?_
  rotate_left
  · intro w hSw
    try dsimp only at hSw
    go_simp
    try with_reducible rfl
  change wpAnyH _ _ _ _ _ _ _ (Act.put _ (some 89) _) _
  try simp only [Act.put, List.setIfInBounds_toArray, List.set_cons_zero, List.set_cons_succ]
  refine wpAnyH_take (i := 4) (v := ?_) rfl (by kernel_rfl) (by kernel_rfl) (by kernel_rfl) (fun _ _ _ h => h) (Or.inl ⟨by rfl, ?_⟩) (by assumption) ?_
  rotate_left
  · intro w hSw
    try dsimp only at hSw
    go_simp
    try with_reducible rfl
  change wpAnyH _ _ _ _ _ _ _ (Act.put _ (some 90) _) _
  try simp only [Act.put, List.setIfInBounds_toArray, List.set_cons_zero, List.set_cons_succ]
  refine wpAnyH_take (i := 5) (v := ?_) rfl (by kernel_rfl) (by kernel_rfl) (by kernel_rfl) (fun _ _ _ h => h) (Or.inl ⟨by rfl, ?_⟩) (by assumption) ?_
  rotate_left
  · intro w hSw
    try dsimp only at hSw
    go_simp
    try with_reducible rfl
  change wpAnyH _ _ _ _ _ _ _ (Act.put _ (some 91) _) _
  try simp only [Act.put, List.setIfInBounds_toArray, List.set_cons_zero, List.set_cons_succ]
  refine wpAnyH_take (i := 6) (v := ?_) rfl (by kernel_rfl) (by kernel_rfl) (by kernel_rfl) (fun _ _ _ h => h) (Or.inl ⟨by rfl, ?_⟩) (by assumption) ?_
  rotate_left
  · intro w hSw
    try dsimp only at hSw
    go_simp
    try with_reducible rfl
  change wpAnyH _ _ _ _ _ _ _ (Act.put _ (some 92) _) _
  try simp only [Act.put, List.setIfInBounds_toArray, List.set_cons_zero, List.set_cons_succ]
  refine wpAnyH_take (i := 7) (v := ?_) rfl (by kernel_rfl) (by kernel_rfl) (by kernel_rfl) (fun _ _ _ h => h) (Or.inl ⟨by rfl, ?_⟩) (by assumption) ?_
  rotate_left
  · intro w hSw
    try dsimp only at hSw
    go_simp
    try with_reducible rfl
  change wpAnyH _ _ _ _ _ _ _ (Act.put _ (some 93) _) _
  try simp only [Act.put, List.setIfInBounds_toArray, List.set_cons_zero, List.set_cons_succ]
  refine wpAnyH_take (i := 8) (v := ?_) rfl (by kernel_rfl) (by kernel_rfl) (by kernel_rfl) (fun _ _ _ h => h) (Or.inl ⟨by rfl, ?_⟩) (by assumption) ?_
  rotate_left
  · intro w hSw
    try dsimp only at hSw
    go_simp
    try with_reducible rfl
  change wpAnyH _ _ _ _ _ _ _ (Act.put _ (some 94) _) _
  try simp only [Act.put, List.setIfInBounds_toArray, List.set_cons_zero, List.set_cons_succ]
  refine wpAnyH_take (i := 9) (v := ?_) rfl (by kernel_rfl) (by kernel_rfl) (by kernel_rfl) (fun _ _ _ h => h) (Or.inl ⟨by rfl, ?_⟩) (by assumption) ?_
  rotate_left
  · intro w hSw
    try dsimp only at hSw
    go_simp
    try with_reducible rfl
  change wpAnyH _ _ _ _ _ _ _ (Act.put _ (some 95) _) _
  try simp only [Act.put, List.setIfInBounds_toArray, List.set_cons_zero, List.set_cons_succ]
  refine wpAnyH_take (i := 10) (v := ?_) rfl (by kernel_rfl) (by kernel_rfl) (by kernel_rfl) (fun _ _ _ h => h) (Or.inl ⟨by rfl, ?_⟩) (by assumption) ?_
  rotate_left
  · intro w hSw
    try dsimp only at hSw
    go_simp
    try with_reducible rfl
  change wpAnyH _ _ _ _ _ _ _ (Act.put _ (some 96) _) _
  try simp only [Act.put, List.setIfInBounds_toArray, List.set_cons_zero, List.set_cons_succ]
  refine wpAnyH_take (i := 11) (v := ?_) rfl (by kernel_rfl) (by kernel_rfl) (by kernel_rfl) (fun _ _ _ h => h) (Or.inl ⟨by rfl, ?_⟩) (by assumption) ?_
  rotate_left
  · intro w hSw
    try dsimp only at hSw
    go_simp
    try with_reducible rfl
  change wpAnyH _ _ _ _ _ _ _ (Act.put _ (some 97) _) _
  try simp only [Act.put, List.setIfInBounds_toArray, List.set_cons_zero, List.set_cons_succ]
  refine wpAnyH_take (i := 12) (v := ?_) rfl (by kernel_rfl) (by kernel_rfl) (by kernel_rfl) (fun _ _ _ h => h) (Or.inl ⟨by rfl, ?_⟩) (by assumption) ?_
  rotate_left
  · intro w hSw
    try dsimp only at hSw
    go_simp
    try with_reducible rfl
  change wpAnyH _ _ _ _ _ _ _ (Act.put _ (some 98) _) _
  try simp only [Act.put, List.setIfInBounds_toArray, List.set_cons_zero, List.set_cons_succ]
  refine wpAnyH_take (i := 13) (v := ?_) rfl (by kernel_rfl) (by kernel_rfl) (by kernel_rfl) (fun _ _ _ h => h) (Or.inl ⟨by rfl, ?_⟩) (by assumption) ?_
  rotate_left
  · intro w hSw
    try dsimp only at hSw
    go_simp
    try with_reducible rfl
  change wpAnyH _ _ _ _ _ _ _ (Act.put _ (some 99) _) _
  try simp only [Act.put, List.setIfInBounds_toArray, List.set_cons_zero, List.set_cons_succ]
  refine wpAnyH_take (i := 14) (v := ?_) rfl (by kernel_rfl) (by kernel_rfl) (by kernel_rfl) (fun _ _ _ h => h) (Or.inl ⟨by rfl, ?_⟩) (by assumption) ?_
  rotate_left
  · intro w hSw
    try dsimp only at hSw
    go_simp
    try with_reducible rfl
  change wpAnyH _ _ _ _ _ _ _ (Act.put _ (some 100) _) _
  try simp only [Act.put, List.setIfInBounds_toArray, List.set_cons_zero, List.set_cons_succ]
  refine wpAnyH_take (i := 15) (v := undef) rfl (by kernel_rfl) (by kernel_rfl) (by kernel_rfl) (fun _ _ _ h => h) (Or.inr ⟨by rfl, rfl⟩) (by assumption) ?_
  change wpAnyH _ _ _ _ _ _ _ (Act.put _ (some 101) _) _
  try simp only [Act.put, List.setIfInBounds_toArray, List.set_cons_zero, List.set_cons_succ]
  refine wpAnyH_take (i := 16) (v := undef) rfl (by kernel_rfl) (by kernel_rfl) (by kernel_rfl) (fun _ _ _ h => h) (Or.inr ⟨by rfl, rfl⟩) (by assumption) ?_
  change wpAnyH _ _ _ _ _ _ _ (Act.put _ (some 102) _) _
  try simp only [Act.put, List.setIfInBounds_toArray, List.set_cons_zero, List.set_cons_succ]
  refine wpAnyH_take (i := 17) (v := undef) rfl (by kernel_rfl) (by kernel_rfl) (by kernel_rfl) (fun _ _ _ h => h) (Or.inr ⟨by rfl, rfl⟩) (by assumption) ?_
  change wpAnyH _ _ _ _ _ _ _ (Act.put _ (some 103) _) _
  try simp only [Act.put, List.setIfInBounds_toArray, List.set_cons_zero, List.set_cons_succ]
  refine wpAnyH_take (i := 18) (v := undef) rfl (by kernel_rfl) (by kernel_rfl) (by kernel_rfl) (fun _ _ _ h => h) (Or.inr ⟨by rfl, rfl⟩) (by assumption) ?_
  change wpAnyH _ _ _ _ _ _ _ (Act.put _ (some 104) _) _
  try simp only [Act.put, List.setIfInBounds_toArray, List.set_cons_zero, List.set_cons_succ]
  refine wpAnyH_take (i := 19) (v := undef) rfl (by kernel_rfl) (by kernel_rfl) (by kernel_rfl) (fun _ _ _ h => h) (Or.inr ⟨by rfl, rfl⟩) (by assumption) ?_
  change wpAnyH _ _ _ _ _ _ _ (Act.put _ (some 105) _) _
  try simp only [Act.put, List.setIfInBounds_toArray, List.set_cons_zero, List.set_cons_succ]
  refine wpAnyH_take (i := 20) (v := undef) rfl (by kernel_rfl) (by kernel_rfl) (by kernel_rfl) (fun _ _ _ h => h) (Or.inr ⟨by rfl, rfl⟩) (by assumption) ?_
  change wpAnyH _ _ _ _ _ _ _ (Act.put _ (some 106) _) _
  try simp only [Act.put, List.setIfInBounds_toArray, List.set_cons_zero, List.set_cons_succ]
  refine wpAnyH_take (i := 21) (v := undef) rfl (by kernel_rfl) (by kernel_rfl) (by kernel_rfl) (fun _ _ _ h => h) (Or.inr ⟨by rfl, rfl⟩) (by assumption) ?_
  change wpAnyH _ _ _ _ _ _ _ (Act.put _ (some 107) _) _
  try simp only [Act.put, List.setIfInBounds_toArray, List.set_cons_zero, List.set_cons_succ]
  refine wpAnyH_take (i := 22) (v := undef) rfl (by kernel_rfl) (by kernel_rfl) (by kernel_rfl) (fun _ _ _ h => h) (Or.inr ⟨by rfl, rfl⟩) (by assumption) ?_
  change wpAnyH _ _ _ _ _ _ _ (Act.put _ (some 108) _) _
  try simp only [Act.put, List.setIfInBounds_toArray, List.set_cons_zero, List.set_cons_succ]
  refine wpAnyH_take (i := 23) (v := ?_) rfl (by kernel_rfl) (by kernel_rfl) (by kernel_rfl) (fun _ _ _ h => h) (Or.inl ⟨by rfl, ?_⟩) (by assumption) ?_
  rotate_left
  · intro w hSw
    try dsimp only at hSw
    go_simp
    try with_reducible rfl
  change wpAnyH _ _ _ _ _ _ _ (Act.put _ (some 109) _) _
  try simp only [Act.put, List.setIfInBounds_toArray, List.set_cons_zero, List.set_cons_succ]
  refine wpAnyH_done (by kernel_rfl) ?_ _
  all_goals
    have hb2 := hb1d.trans (hbn.mono hb1d.size)
    have h2 := h.below hb2
    have hcall := devOdds_any B a mb m F 130 W2 h2.is_ h.inv (by have := h.len; omega)
    rw [← hq] at hcall
    clear hq
    go_wp2_with fail
    refine (hcall).mono ?_
    rintro e W4 h4
    obtain ⟨x5, rfl, ho5, t5⟩ := DevAns.of2 hI0 hb2 h4
    obtain ⟨A5, c5, rfl⟩ := own_slice ho5
    go_wp2_with fail
    refine bodyPost_ret (v := .tuple #[.slice A5 q.2.1.length c5, .int .i64 q.2.2]) (by simp [results, Tryz.results95, go_sem]) rfl ⟨_, rfl, ho5, t5⟩
end Go.Proofs.YtbkkfkbgcklkgaaGreat
