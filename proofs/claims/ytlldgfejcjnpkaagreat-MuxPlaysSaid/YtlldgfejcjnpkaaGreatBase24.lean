/- The base of the laws, part 24: contracts and plain lemmas, no statement. -/
import Derived.Test.YtlldgfejcjnpkaaGreatBase18
import Derived.Deep.RegionHeld3
set_option linter.unusedVariables false
/- A device: the last unit; a unit is taken. -/
namespace Go.Proofs.YtlldgfejcjnpkaaGreat
open Go.RowKit
set_option maxHeartbeats 10000000
set_option maxRecDepth 100000

theorem DevTo.wide {B : Nat} {w w' : World} {a mb : Nat} {m' : DevM} {F F' : Nat → Prop} (t : DevTo B w a mb m' F w') (hF : ∀ x, F x → F' x) (hlo : ∀ x, F' x → B ≤ x ∧ x < w.heap.size) (hB : B ≤ w.heap.size) : DevTo B w a mb m' F' w' := by
  obtain ⟨⟨κ, c, d, v, g, val, h, hκ⟩, _⟩ := t.is_
  exact ⟨⟨⟨κ, c, d, v, g, val, h, fun x hx => (hκ x hx).imp (hF x) id⟩, grow_fb hlo hB t.keep.size⟩, t.keep.mono (fun x _ hx => hF x hx)⟩
theorem DevAns.of2 {B : Nat} {w w1 : World} {a mb : Nat} {m : DevM} {F : Nat → Prop} {r : DevM × List UInt8 × Int} {e : Ending} {w' : World} (hI : DevIs B w a mb m F) (hb : Below w.heap.size w w1) (h : DevAns B w1 a mb F r e w') : DevAns B w a mb F r e w' := by
  obtain ⟨x, he, ho, t2⟩ := h
  exact ⟨x, he, own_base ho hb.size, DevAp.of2 hI (Keep.of_below hb) t2⟩
theorem devEnded_any (B a mb : Nat) (m : DevM) (F : Nat → Prop) (kind code session number flags : Int) (sl : Value) (w : World) (hI : DevIs B w a mb m F) (hi : m.Inv) (hn : m.number < number) (hn2 : number = m.p.count) (hlen : m.log.length < 1073741800) :
    Calls Tryz.prog 151 #[.pointer (some ⟨a, 0, none⟩), .agg #[.int .i64 kind, .int .u32 code, .int .u32 session, .int .u32 number, .int .i64 flags, sl]] w fun e w' =>
      DevAns B w a mb F ({ ({ (({ m with number := number } : DevM).alive).trip 80 with sent := m.p.count } : DevM).run false with state := 5 }, ({ (({ m with number := number } : DevM).alive).trip 80 with sent := m.p.count } : DevM).frame 21 m.p.count 0 [], 0) e w' := by
  have hI0 := hI
  obtain ⟨⟨κ, c, d, v, g, val, hH, hF⟩, hlo⟩ := hI
  have hp8 := hi.p8
  have hsn := hi.sent
  have hki1 : ({ m with number := number } : DevM).Inv := { hi with number := by simp only; omega, sent := by simp only; omega }
  have hki2 := hki1.alive.trip 80
  have hki3 : ({ (({ m with number := number } : DevM).alive).trip 80 with sent := m.p.count } : DevM).Inv := { hki2 with sent := by show 0 ≤ m.p.count ∧ m.p.count ≤ number; omega }
  obtain ⟨of, Hof⟩ : ∃ of, Hid (of = ({ (({ m with number := number } : DevM).alive).trip 80 with sent := m.p.count } : DevM).frame 21 m.p.count 0 []) := ⟨_, Lib.hid rfl⟩
  rw [← Hof.out]
  have hcn : 0 ≤ m.p.count ∧ m.p.count < 4294967296 := by omega
  clear hp8 hsn hn2
  have hb1 : Below w.heap.size w (w.alloc (.cells #[.int .i64 kind, .int .u32 code, .int .u32 session, .int .u32 number, .int .i64 flags, sl] 64)) := (Below.refl _ _).alloc (Nat.le_refl _) _
  have hA1 := hH.below hb1
  have hI1 := hI0.below hb1
  have hbA := hA1.blk
  have hc := hbA.cell
  have hf := hbA.frozen
  unfold devCells at hc
  have hset : Blk ((w.alloc (.cells #[.int .i64 kind, .int .u32 code, .int .u32 session, .int .u32 number, .int .i64 flags, sl] 64)).setCell ⟨a, 13, none⟩ (.int .u32 number)) a 132 (devCells { m with number := number } mb c d v g val) := by simpa [devCells] using hbA.set_ 13 (.int .u32 number)
  have T2 := DevTo.of2 hI0 (Keep.of_below hb1) (hA1.toUpd hI1 hF (keepA _) (by simp [World.setCell]) hset rfl rfl rfl rfl rfl rfl rfl)
  unfold DevAns
  go_enter Tryz.func151, Tryz.ntmps151
  go_wp2_with fail
  refine (devAlive_any B a mb { m with number := number } _ _ T2.is_).mono ?_
  rintro e W3 ⟨rfl, t3⟩
  have T3 := DevTo.trans hI0 T2 t3
  clear hc hf
  go_wp2_with fail
  refine (devTrip_any B a mb _ _ 80 W3 (by decide) T3.is_ (by show m.log.length < _; omega)).mono ?_
  rintro e W4 ⟨rfl, t4⟩
  have T4 := DevTo.trans hI0 T3 t4
  generalize hk4 : (({ m with number := number } : DevM).alive).trip 80 = k4 at *
  have hp4 : k4.p = m.p := by rw [← hk4]; rfl
  obtain ⟨⟨κ4, c4, d4, v4, g4, val4, h4, hF4⟩, hlo4⟩ := T4.is_
  have hb4 := h4.blk
  have hc := hb4.cell
  have hf := hb4.frozen
  unfold devCells at hc
  rw [hp4] at hc
  have hset4 : Blk (W4.setCell ⟨a, 14, none⟩ (.int .u32 m.p.count)) a 132 (devCells { k4 with sent := m.p.count } mb c4 d4 v4 g4 val4) := by simpa [devCells] using hb4.set_ 14 (.int .u32 m.p.count)
  have T5 := DevTo.trans hI0 T4 (h4.toUpd T4.is_ hF4 (keepA W4) (by simp [World.setCell]) hset4 rfl rfl rfl rfl rfl rfl rfl)
  have hc5 := hset4.cell
  unfold devCells at hc5
  simp only at hc5
  go_wp2_with fail
  have hrep := devNone_any B a mb { k4 with sent := m.p.count } _ 21 m.p.count _ T5.is_ hki3 hcn (by decide)
  rw [← Hof.out] at hrep
  generalize W4.setCell ⟨a, 14, none⟩ (.int .u32 m.p.count) = W5 at *
  clear hc hf hset4
  refine hrep.mono ?_
  rintro e W6 ⟨x6, rfl, hown6, hb6⟩
  obtain ⟨A6, c6, rfl⟩ := own_slice hown6
  have hI6 := T5.is_.below hb6
  obtain ⟨⟨κ6, c6', d6, v6, g6, val6, h6, hF6⟩, hlo6⟩ := hI6
  have hc6 := h6.blk.cell
  unfold devCells at hc6
  have hI6 : DevIs B W6 a mb { k4 with sent := m.p.count } (grow F w W5) := T5.is_.below hb6
  clear hc5
  go_wp2_with fail
  refine (valveRun_any v6 _ _ _ false W6 h6.valve).mono ?_
  rintro e W7 ⟨rfl, hv7, hk7, hs7⟩
  have t7 := h6.toValve hI6 hF6 hv7 hk7 (fun x hx => .inl hx)
  have h7 := h6.onValve hv7 hk7 (fun x hx => .inl hx)
  have hF7 : ∀ x, paint κ6 2 W6 W7 x ≠ none → grow (grow F w W5) W6 W7 x := paint_sub hF6
  have hb7 := h7.blk
  clear hs7 hc6
  have hc := hb7.cell
  have hf := hb7.frozen
  unfold devCells at hc
  simp only at hc
  have hset7 : Blk (W7.setCell ⟨a, 11, none⟩ (.int .i64 5)) a 132 (devCells { ({ k4 with sent := m.p.count } : DevM).run false with state := 5 } mb c6' d6 v6 g6 val6) := by simpa [devCells, DevM.run] using hb7.set_ 11 (.int .i64 5)
  have t8 := h7.toUpd t7.is_ hF7 (keepA W7) (by simp [World.setCell]) hset7 rfl rfl rfl rfl rfl rfl rfl
  have T8 := DevTo.trans hI6 t7 t8
  go_wp2_with fail
  generalize W7.setCell ⟨a, 11, none⟩ (.int .i64 5) = W8 at *
  have hs5 := T5.keep.size
  have hs6 := hb6.size
  refine bodyPost_ret (v := .tuple #[.slice A6 of.length c6, .int .i64 0]) (by simp [results, Tryz.results151, go_sem]) rfl ⟨_, rfl, own_base (ownsRow_keep hown6 T8.keep (fun x hx hg => ?_)) hs5, ?_⟩
  · have := (hown6.lt x hx).1
    rcases hg with hg | hg
    · have := (hI0.lo x hg).2; omega
    · omega
  · have T6 := DevTo.below hI0 T5 hb6
    have hs8 := T8.keep.size
    have Tz := DevTo.trans hI0 T6 (DevTo.wide T8 (fun x (hx : grow F w W5 x) => hx.elim .inl (fun hx => .inr ⟨hx.1, by omega⟩)) T6.is_.lo T6.is_.Ble)
    have hI8 := T8.is_
    subst hk4
    refine ⟨Tz, _, hI8, fun y hy => ?_, fun y hy hg => ?_⟩
    · rcases hy with (hy | hy) | hy
      · exact .inl hy
      · exact .inr ⟨hy.1, by omega⟩
      · exact .inr ⟨by omega, hy.2⟩
    · have h1 := hown6.lt y hy
      rcases hg with (hg | hg) | hg
      · have := (hI0.lo y hg).2; omega
      · omega
      · omega
/-- Where a device takes a unit (its data in a slice A). -/
structure DTake (B : Nat) (w : World) (a mb : Nat) (m : DevM) (F : Nat → Prop) (flags : Int) (data : List UInt8) (A : Option Addr) (Br : Nat) : Prop where
  is_ : DevIs B w a mb m F
  inv : m.Inv
  len : m.log.length < 1073741800
  rd : Reads w Br 1 A data.length (u8c data)
  rb : Br ≤ w.heap.size
  d8 : data.length ≤ 8
  fl : 0 ≤ flags ∧ flags ≤ 15
  af : ∀ ad, A = some ad → ¬ F ad.block
theorem DTake.below {B : Nat} {w w' : World} {a mb : Nat} {m : DevM} {F : Nat → Prop} {flags : Int} {data : List UInt8} {A : Option Addr} {Br : Nat} (h : DTake B w a mb m F flags data A Br) (hb : Below w.heap.size w w') : DTake B w' a mb m F flags data A Br :=
  { h with is_ := h.is_.below hb, rd := h.rd.below (hb.mono h.rb), rb := Nat.le_trans h.rb hb.size }
end Go.Proofs.YtlldgfejcjnpkaaGreat
/- A device takes a unit: a wish. -/
namespace Go.Proofs.YtlldgfejcjnpkaaGreat
open Go.RowKit
set_option maxHeartbeats 10000000
set_option maxRecDepth 100000

theorem devTake_param (B a mb : Nat) (m : DevM) (F : Nat → Prop) (code session number flags : Int) (data : List UInt8) (A : Option Addr) (cA Br : Nat) (w : World) (h : DTake B w a mb m F flags data A Br) :
    Calls Tryz.prog 104 #[.pointer (some ⟨a, 0, none⟩), .agg #[.int .i64 1, .int .u32 code, .int .u32 session, .int .u32 number, .int .i64 flags, .slice A data.length cA]] w fun e w' => DevAns B w a mb F (m.take ⟨1, code, session, number, flags, data⟩) e w' := by
  obtain ⟨q, Hq⟩ : ∃ q, Hid (q = m.take ⟨1, code, session, number, flags, data⟩) := ⟨_, Lib.hid rfl⟩
  rw [← Hq.out]
  have hI0 := h.is_
  have hb1 : Below w.heap.size w (w.alloc (.cells #[.int .i64 1, .int .u32 code, .int .u32 session, .int .u32 number, .int .i64 flags, .slice A data.length cA] 64)) := (Below.refl _ _).alloc (Nat.le_refl _) _
  have h1 := h.below hb1
  have hU := Blk.new w 64 #[.int .i64 1, .int .u32 code, .int .u32 session, .int .u32 number, .int .i64 flags, .slice A data.length cA]
  obtain ⟨⟨κ, c, d, v, g, val, hH, hF⟩, hlo⟩ := h.is_
  have hA1 := hH.below hb1
  unfold DevAns
  have hq : q = if data = m.p.sign then m.wish else m.odds 91 := by rw [Hq.out]; unfold DevM.take; rw [if_pos rfl]
  clear Hq
  go_enter Tryz.func104, Tryz.ntmps104
  go_upto_region 1 with fail
  obtain ⟨u, Hu⟩ : ∃ e, Hid (e = w.heap.size) := ⟨_, Lib.hid rfl⟩
  rw [← Hu.out] at hU ⊢
  generalize w.alloc (.cells #[.int .i64 1, .int .u32 code, .int .u32 session, .int .u32 number, .int .i64 flags, .slice A data.length cA] 64) = W1 at *
  have hc := hA1.blk.cell
  unfold devCells at hc
  have huc := hU.cell
  have hcall := devAsked_any B a mb m F 1 code session number flags data A cA Br W1 h1.is_ h.inv h.len h1.rd h1.rb (by have := h.d8; omega)
  rw [← hq] at hcall
  clear hq
  go_wp2_with fail
  refine (hcall).mono ?_
  rintro e W4 h4
  obtain ⟨x5, rfl, ho5, t5⟩ := DevAns.of2 hI0 hb1 h4
  obtain ⟨A5, c5, rfl⟩ := own_slice ho5
  go_wp2_with fail
  refine bodyPost_ret (v := .tuple #[.slice A5 q.2.1.length c5, .int .i64 q.2.2]) (by simp [results, Tryz.results104, go_sem]) rfl ⟨_, rfl, ho5, t5⟩
end Go.Proofs.YtlldgfejcjnpkaaGreat
/- A device takes a unit: an echo. -/
namespace Go.Proofs.YtlldgfejcjnpkaaGreat
open Go.RowKit
set_option maxHeartbeats 10000000
set_option maxRecDepth 100000

theorem devTake_echo (B a mb : Nat) (m : DevM) (F : Nat → Prop) (code session number flags : Int) (data : List UInt8) (A : Option Addr) (cA Br : Nat) (w : World) (h : DTake B w a mb m F flags data A Br) :
    Calls Tryz.prog 104 #[.pointer (some ⟨a, 0, none⟩), .agg #[.int .i64 2, .int .u32 code, .int .u32 session, .int .u32 number, .int .i64 flags, .slice A data.length cA]] w fun e w' => DevAns B w a mb F (m.take ⟨2, code, session, number, flags, data⟩) e w' := by
  obtain ⟨q, Hq⟩ : ∃ q, Hid (q = m.take ⟨2, code, session, number, flags, data⟩) := ⟨_, Lib.hid rfl⟩
  rw [← Hq.out]
  have hI0 := h.is_
  have hb1 : Below w.heap.size w (w.alloc (.cells #[.int .i64 2, .int .u32 code, .int .u32 session, .int .u32 number, .int .i64 flags, .slice A data.length cA] 64)) := (Below.refl _ _).alloc (Nat.le_refl _) _
  have h1 := h.below hb1
  have hU := Blk.new w 64 #[.int .i64 2, .int .u32 code, .int .u32 session, .int .u32 number, .int .i64 flags, .slice A data.length cA]
  obtain ⟨⟨κ, c, d, v, g, val, hH, hF⟩, hlo⟩ := h.is_
  have hA1 := hH.below hb1
  unfold DevAns
  go_enter Tryz.func104, Tryz.ntmps104
  go_upto_region 1 with fail
  obtain ⟨u, Hu⟩ : ∃ e, Hid (e = w.heap.size) := ⟨_, Lib.hid rfl⟩
  rw [← Hu.out] at hU ⊢
  generalize w.alloc (.cells #[.int .i64 2, .int .u32 code, .int .u32 session, .int .u32 number, .int .i64 flags, .slice A data.length cA] 64) = W1 at *
  have hc := hA1.blk.cell
  unfold devCells at hc
  have huc := hU.cell
  by_cases hs : session = m.session
  · subst hs
    by_cases s2 : m.state = 2
    · have hq : q = if data ≠ m.p.sign then m.odds 91 else ((if m.state = 2 then ({ m with state := 3 } : DevM).alive else m), (if m.state = 2 then ({ m with state := 3 } : DevM).alive else m).frame 18 0 0 [], 0) := by rw [Hq.out]; unfold DevM.take; rw [if_neg (by simp), if_pos ⟨rfl, rfl, .inl s2⟩]
      clear Hq
      rw [s2] at hc
      go_wp2_with fail
      go_big_quiet (fail)
      have h2 := h1.below (belowN (Below.refl W1.heap.size W1) nq)
      have hU2 := hU.drewN nq
      have hb2 := belowN hb1 nq
      generalize W1.drewN nq = W2 at *
      clear hc huc
      have huc := hU2.cell
      have hcall := devEchoed_any B a mb m F 2 code m.session number flags data A cA Br W2 h2.is_ h.inv h.len h2.rd h2.rb (by have := h.d8; omega)
      rw [← hq] at hcall
      clear hq
      go_wp2_with fail
      refine (hcall).mono ?_
      rintro e W4 h4
      obtain ⟨x5, rfl, ho5, t5⟩ := DevAns.of2 hI0 hb2 h4
      obtain ⟨A5, c5, rfl⟩ := own_slice ho5
      go_wp2_with fail
      refine bodyPost_ret (v := .tuple #[.slice A5 q.2.1.length c5, .int .i64 q.2.2]) (by simp [results, Tryz.results104, go_sem]) rfl ⟨_, rfl, ho5, t5⟩
    · have n2 : (m.state == 2) = false := by simpa using s2
      by_cases s3 : m.state = 3
      · have hq : q = if data ≠ m.p.sign then m.odds 91 else ((if m.state = 2 then ({ m with state := 3 } : DevM).alive else m), (if m.state = 2 then ({ m with state := 3 } : DevM).alive else m).frame 18 0 0 [], 0) := by rw [Hq.out]; unfold DevM.take; rw [if_neg (by simp), if_pos ⟨rfl, rfl, .inr s3⟩]
        clear Hq
        rw [s3] at hc
        go_wp2_with fail
        go_big_quiet (fail)
        have h2 := h1.below (belowN (Below.refl W1.heap.size W1) nq)
        have hU2 := hU.drewN nq
        have hb2 := belowN hb1 nq
        generalize W1.drewN nq = W2 at *
        clear hc huc
        have huc := hU2.cell
        have hcall := devEchoed_any B a mb m F 2 code m.session number flags data A cA Br W2 h2.is_ h.inv h.len h2.rd h2.rb (by have := h.d8; omega)
        rw [← hq] at hcall
        clear hq
        go_wp2_with fail
        refine (hcall).mono ?_
        rintro e W4 h4
        obtain ⟨x5, rfl, ho5, t5⟩ := DevAns.of2 hI0 hb2 h4
        obtain ⟨A5, c5, rfl⟩ := own_slice ho5
        go_wp2_with fail
        refine bodyPost_ret (v := .tuple #[.slice A5 q.2.1.length c5, .int .i64 q.2.2]) (by simp [results, Tryz.results104, go_sem]) rfl ⟨_, rfl, ho5, t5⟩
      · have n3 : (m.state == 3) = false := by simpa using s3
        have hq : q = m.odds 130 := by rw [Hq.out]; exact by unfold DevM.take; rw [if_neg (by simp), if_neg (by dsimp only; omega), if_neg (by dsimp only; omega), if_neg (by dsimp only; omega), if_neg (by dsimp only; omega)]
        clear Hq
        go_wp2_with fail
        go_big_quiet (fail)
        have h2 := h1.below (belowN (Below.refl W1.heap.size W1) nq)
        have hU2 := hU.drewN nq
        have hb2 := belowN hb1 nq
        generalize W1.drewN nq = W2 at *
        clear hc huc
        have huc := hU2.cell
        have hcall := devOdds_any B a mb m F 130 W2 h2.is_ h.inv (by have := h.len; omega)
        rw [← hq] at hcall
        clear hq
        go_wp2_with fail
        refine (hcall).mono ?_
        rintro e W4 h4
        obtain ⟨x5, rfl, ho5, t5⟩ := DevAns.of2 hI0 hb2 h4
        obtain ⟨A5, c5, rfl⟩ := own_slice ho5
        go_wp2_with fail
        refine bodyPost_ret (v := .tuple #[.slice A5 q.2.1.length c5, .int .i64 q.2.2]) (by simp [results, Tryz.results104, go_sem]) rfl ⟨_, rfl, ho5, t5⟩
  · have gs : (m.session == session) = false := by simpa using fun e => hs e.symm
    have ns : ¬ m.session = session := fun e => hs e.symm
    have hq : q = m.odds 130 := by rw [Hq.out]; exact by unfold DevM.take; rw [if_neg (by simp), if_neg (by dsimp only; omega), if_neg (by dsimp only; omega), if_neg (by dsimp only; omega), if_neg (by dsimp only; omega)]
    clear Hq
    go_wp2_with fail
    go_big_quiet (fail)
    have h2 := h1.below (belowN (Below.refl W1.heap.size W1) nq)
    have hU2 := hU.drewN nq
    have hb2 := belowN hb1 nq
    generalize W1.drewN nq = W2 at *
    clear hc huc
    have huc := hU2.cell
    have hcall := devOdds_any B a mb m F 130 W2 h2.is_ h.inv (by have := h.len; omega)
    rw [← hq] at hcall
    clear hq
    go_wp2_with fail
    refine (hcall).mono ?_
    rintro e W4 h4
    obtain ⟨x5, rfl, ho5, t5⟩ := DevAns.of2 hI0 hb2 h4
    obtain ⟨A5, c5, rfl⟩ := own_slice ho5
    go_wp2_with fail
    refine bodyPost_ret (v := .tuple #[.slice A5 q.2.1.length c5, .int .i64 q.2.2]) (by simp [results, Tryz.results104, go_sem]) rfl ⟨_, rfl, ho5, t5⟩
end Go.Proofs.YtlldgfejcjnpkaaGreat
/- A device takes a unit: a start. -/
namespace Go.Proofs.YtlldgfejcjnpkaaGreat
open Go.RowKit
set_option maxHeartbeats 10000000
set_option maxRecDepth 100000

theorem devTake_start (B a mb : Nat) (m : DevM) (F : Nat → Prop) (code session number flags : Int) (data : List UInt8) (A : Option Addr) (cA Br : Nat) (w : World) (h : DTake B w a mb m F flags data A Br) :
    Calls Tryz.prog 104 #[.pointer (some ⟨a, 0, none⟩), .agg #[.int .i64 3, .int .u32 code, .int .u32 session, .int .u32 number, .int .i64 flags, .slice A data.length cA]] w fun e w' => DevAns B w a mb F (m.take ⟨3, code, session, number, flags, data⟩) e w' := by
  obtain ⟨q, Hq⟩ : ∃ q, Hid (q = m.take ⟨3, code, session, number, flags, data⟩) := ⟨_, Lib.hid rfl⟩
  rw [← Hq.out]
  have hI0 := h.is_
  have hb1 : Below w.heap.size w (w.alloc (.cells #[.int .i64 3, .int .u32 code, .int .u32 session, .int .u32 number, .int .i64 flags, .slice A data.length cA] 64)) := (Below.refl _ _).alloc (Nat.le_refl _) _
  have h1 := h.below hb1
  have hU := Blk.new w 64 #[.int .i64 3, .int .u32 code, .int .u32 session, .int .u32 number, .int .i64 flags, .slice A data.length cA]
  obtain ⟨⟨κ, c, d, v, g, val, hH, hF⟩, hlo⟩ := h.is_
  have hA1 := hH.below hb1
  unfold DevAns
  go_enter Tryz.func104, Tryz.ntmps104
  go_upto_region 1 with fail
  obtain ⟨u, Hu⟩ : ∃ e, Hid (e = w.heap.size) := ⟨_, Lib.hid rfl⟩
  rw [← Hu.out] at hU ⊢
  generalize w.alloc (.cells #[.int .i64 3, .int .u32 code, .int .u32 session, .int .u32 number, .int .i64 flags, .slice A data.length cA] 64) = W1 at *
  have hc := hA1.blk.cell
  unfold devCells at hc
  have huc := hU.cell
  by_cases hs : session = m.session
  · subst hs
    by_cases s3 : m.state = 3
    · have hq : q = ((if m.state = 3 then (({ m with state := 4 } : DevM).run true).alive else m), (if m.state = 3 then (({ m with state := 4 } : DevM).run true).alive else m).frame 19 0 0 [], 0) := by rw [Hq.out]; unfold DevM.take; rw [if_neg (by simp), if_neg (by dsimp only; omega), if_pos ⟨rfl, rfl, .inl s3⟩]
      clear Hq
      rw [s3] at hc
      go_wp2_with fail
      go_big_quiet (fail)
      have h2 := h1.below (belowN (Below.refl W1.heap.size W1) nq)
      have hU2 := hU.drewN nq
      have hb2 := belowN hb1 nq
      generalize W1.drewN nq = W2 at *
      clear hc huc
      have huc := hU2.cell
      have hcall := devStarted_any B a mb m F W2 h2.is_ h.inv
      rw [← hq] at hcall
      clear hq
      go_wp2_with fail
      refine (hcall).mono ?_
      rintro e W4 h4
      obtain ⟨x5, rfl, ho5, t5⟩ := DevAns.of2 hI0 hb2 h4
      obtain ⟨A5, c5, rfl⟩ := own_slice ho5
      go_wp2_with fail
      refine bodyPost_ret (v := .tuple #[.slice A5 q.2.1.length c5, .int .i64 q.2.2]) (by simp [results, Tryz.results104, go_sem]) rfl ⟨_, rfl, ho5, t5⟩
    · have n3 : (m.state == 3) = false := by simpa using s3
      by_cases s4 : m.state = 4
      · have g4 : (m.state == 4) = true := by simpa using s4
        by_cases hn : m.number = 0
        · have hq : q = ((if m.state = 3 then (({ m with state := 4 } : DevM).run true).alive else m), (if m.state = 3 then (({ m with state := 4 } : DevM).run true).alive else m).frame 19 0 0 [], 0) := by rw [Hq.out]; unfold DevM.take; rw [if_neg (by simp), if_neg (by dsimp only; omega), if_pos ⟨rfl, rfl, .inr ⟨s4, hn⟩⟩]
          clear Hq
          rw [s4, hn] at hc
          go_wp2_with fail
          go_big_quiet (fail)
          have h2 := h1.below (belowN (Below.refl W1.heap.size W1) nq)
          have hU2 := hU.drewN nq
          have hb2 := belowN hb1 nq
          generalize W1.drewN nq = W2 at *
          clear hc huc
          have huc := hU2.cell
          have hcall := devStarted_any B a mb m F W2 h2.is_ h.inv
          rw [← hq] at hcall
          clear hq
          go_wp2_with fail
          refine (hcall).mono ?_
          rintro e W4 h4
          obtain ⟨x5, rfl, ho5, t5⟩ := DevAns.of2 hI0 hb2 h4
          obtain ⟨A5, c5, rfl⟩ := own_slice ho5
          go_wp2_with fail
          refine bodyPost_ret (v := .tuple #[.slice A5 q.2.1.length c5, .int .i64 q.2.2]) (by simp [results, Tryz.results104, go_sem]) rfl ⟨_, rfl, ho5, t5⟩
        · have gn : (m.number == 0) = false := by simpa using hn
          rw [s4] at hc
          have hq : q = m.odds 130 := by rw [Hq.out]; exact by unfold DevM.take; rw [if_neg (by simp), if_neg (by dsimp only; omega), if_neg (by dsimp only; omega), if_neg (by dsimp only; omega), if_neg (by dsimp only; omega)]
          clear Hq
          go_wp2_with fail
          go_big_quiet (fail)
          have h2 := h1.below (belowN (Below.refl W1.heap.size W1) nq)
          have hU2 := hU.drewN nq
          have hb2 := belowN hb1 nq
          generalize W1.drewN nq = W2 at *
          clear hc huc
          have huc := hU2.cell
          have hcall := devOdds_any B a mb m F 130 W2 h2.is_ h.inv (by have := h.len; omega)
          rw [← hq] at hcall
          clear hq
          go_wp2_with fail
          refine (hcall).mono ?_
          rintro e W4 h4
          obtain ⟨x5, rfl, ho5, t5⟩ := DevAns.of2 hI0 hb2 h4
          obtain ⟨A5, c5, rfl⟩ := own_slice ho5
          go_wp2_with fail
          refine bodyPost_ret (v := .tuple #[.slice A5 q.2.1.length c5, .int .i64 q.2.2]) (by simp [results, Tryz.results104, go_sem]) rfl ⟨_, rfl, ho5, t5⟩
      · have n4 : (m.state == 4) = false := by simpa using s4
        have hq : q = m.odds 130 := by rw [Hq.out]; exact by unfold DevM.take; rw [if_neg (by simp), if_neg (by dsimp only; omega), if_neg (by dsimp only; omega), if_neg (by dsimp only; omega), if_neg (by dsimp only; omega)]
        clear Hq
        go_wp2_with fail
        go_big_quiet (fail)
        have h2 := h1.below (belowN (Below.refl W1.heap.size W1) nq)
        have hU2 := hU.drewN nq
        have hb2 := belowN hb1 nq
        generalize W1.drewN nq = W2 at *
        clear hc huc
        have huc := hU2.cell
        have hcall := devOdds_any B a mb m F 130 W2 h2.is_ h.inv (by have := h.len; omega)
        rw [← hq] at hcall
        clear hq
        go_wp2_with fail
        refine (hcall).mono ?_
        rintro e W4 h4
        obtain ⟨x5, rfl, ho5, t5⟩ := DevAns.of2 hI0 hb2 h4
        obtain ⟨A5, c5, rfl⟩ := own_slice ho5
        go_wp2_with fail
        refine bodyPost_ret (v := .tuple #[.slice A5 q.2.1.length c5, .int .i64 q.2.2]) (by simp [results, Tryz.results104, go_sem]) rfl ⟨_, rfl, ho5, t5⟩
  · have gs : (m.session == session) = false := by simpa using fun e => hs e.symm
    have ns : ¬ m.session = session := fun e => hs e.symm
    have hq : q = m.odds 130 := by rw [Hq.out]; exact by unfold DevM.take; rw [if_neg (by simp), if_neg (by dsimp only; omega), if_neg (by dsimp only; omega), if_neg (by dsimp only; omega), if_neg (by dsimp only; omega)]
    clear Hq
    go_wp2_with fail
    go_big_quiet (fail)
    have h2 := h1.below (belowN (Below.refl W1.heap.size W1) nq)
    have hU2 := hU.drewN nq
    have hb2 := belowN hb1 nq
    generalize W1.drewN nq = W2 at *
    clear hc huc
    have huc := hU2.cell
    have hcall := devOdds_any B a mb m F 130 W2 h2.is_ h.inv (by have := h.len; omega)
    rw [← hq] at hcall
    clear hq
    go_wp2_with fail
    refine (hcall).mono ?_
    rintro e W4 h4
    obtain ⟨x5, rfl, ho5, t5⟩ := DevAns.of2 hI0 hb2 h4
    obtain ⟨A5, c5, rfl⟩ := own_slice ho5
    go_wp2_with fail
    refine bodyPost_ret (v := .tuple #[.slice A5 q.2.1.length c5, .int .i64 q.2.2]) (by simp [results, Tryz.results104, go_sem]) rfl ⟨_, rfl, ho5, t5⟩
end Go.Proofs.YtlldgfejcjnpkaaGreat
/- A device takes a unit: what its regions read. -/
namespace Go.Proofs.YtlldgfejcjnpkaaGreat
open Go.RowKit
set_option maxHeartbeats 10000000
set_option maxRecDepth 100000

theorem devSU {w : World} {a mb c d v g u : Nat} {m : DevM} {val : Value} {x0 x1 x2 x3 x4 x5 : Value} (h : Blk w a 132 (devCells m mb c d v g val)) (hu : Blk w u 64 #[x0, x1, x2, x3, x4, x5]) :
    w.cell? ⟨a, 1, none⟩ = some (.int .i64 m.p.out) ∧ w.cell? ⟨a, 4, none⟩ = some (.int .u32 m.p.count) ∧ w.cell? ⟨u, 0, none⟩ = some x0 ∧ w.cell? ⟨u, 1, none⟩ = some x1 ∧ w.cell? ⟨u, 2, none⟩ = some x2 ∧ w.cell? ⟨u, 3, none⟩ = some x3 ∧ w.cell? ⟨u, 4, none⟩ = some x4 ∧ w.cell? ⟨u, 5, none⟩ = some x5 :=
  ⟨(h.cell 1).trans rfl, (h.cell 4).trans rfl, (hu.cell 0).trans rfl, (hu.cell 1).trans rfl, (hu.cell 2).trans rfl, (hu.cell 3).trans rfl, (hu.cell 4).trans rfl, (hu.cell 5).trans rfl⟩
end Go.Proofs.YtlldgfejcjnpkaaGreat
/- A device takes a unit: a value (1). -/
namespace Go.Proofs.YtlldgfejcjnpkaaGreat
open Go.RowKit
set_option maxHeartbeats 10000000
set_option maxRecDepth 100000

theorem devTake_data1 (B a mb : Nat) (m : DevM) (F : Nat → Prop) (code session number flags : Int) (data : List UInt8) (A : Option Addr) (cA Br : Nat) (w : World) (h : DTake B w a mb m F flags data A Br)
    (hnext : m.state = 4 ∧ session = m.session ∧ m.number < number) (hl : (data.length : Int) = m.p.out) (hn : number < m.p.count) :
    Calls Tryz.prog 104 #[.pointer (some ⟨a, 0, none⟩), .agg #[.int .i64 4, .int .u32 code, .int .u32 session, .int .u32 number, .int .i64 flags, .slice A data.length cA]] w fun e w' => DevAns B w a mb F (m.take ⟨4, code, session, number, flags, data⟩) e w' := by
  have H0hnext := Lib.hid hnext
  have H0hl := Lib.hid hl
  have H0hn := Lib.hid hn
  clear hnext hl hn
  obtain ⟨q, Hq⟩ : ∃ q, Hid (q = m.take ⟨4, code, session, number, flags, data⟩) := ⟨_, Lib.hid rfl⟩
  rw [← Hq.out]
  have hI0 := h.is_
  have hb1 : Below w.heap.size w (w.alloc (.cells #[.int .i64 4, .int .u32 code, .int .u32 session, .int .u32 number, .int .i64 flags, .slice A data.length cA] 64)) := (Below.refl _ _).alloc (Nat.le_refl _) _
  have h1 := h.below hb1
  have hU := Blk.new w 64 #[.int .i64 4, .int .u32 code, .int .u32 session, .int .u32 number, .int .i64 flags, .slice A data.length cA]
  obtain ⟨⟨κ, c, d, v, g, val, hH, hF⟩, hlo⟩ := h.is_
  have hA1 := hH.below hb1
  unfold DevAns
  go_enter Tryz.func104, Tryz.ntmps104
  go_upto_region 1 with fail
  obtain ⟨u, Hu⟩ : ∃ e, Hid (e = w.heap.size) := ⟨_, Lib.hid rfl⟩
  rw [← Hu.out] at hU ⊢
  generalize w.alloc (.cells #[.int .i64 4, .int .u32 code, .int .u32 session, .int .u32 number, .int .i64 flags, .slice A data.length cA] 64) = W1 at *
  have hc := hA1.blk.cell
  unfold devCells at hc
  have huc := hU.cell
  have hnx := devNext_any B a mb m F 4 code session number flags (.slice A data.length cA) W1.drew (h1.is_.below (Below.refl W1.heap.size W1).drew)
  have hb1d := hb1.drew
  have hbA := hA1.drew.blk
  replace hU := hU.drew
  have hul := hU.lt
  have hal := hbA.lt
  have hnext := H0hnext.out
  have hl := H0hl.out
  have hn := H0hn.out
  rw [decide_eq_true hnext] at hnx
  have gl : ((data.length : Int) == m.p.out) = true := by simpa using hl
  have hq : q = ({ ({ m with number := number } : DevM).alive with valve := ((({ m with number := number } : DevM).alive.valve.hold (decide (8 ≤ flags))).take data), sent := m.sent + 1 }, DevM.frame { ({ m with number := number } : DevM).alive with valve := ((({ m with number := number } : DevM).alive.valve.hold (decide (8 ≤ flags))).take data), sent := m.sent + 1 } 20 (m.sent + 1) (flagsM ((({ m with number := number } : DevM).alive.valve.hold (decide (8 ≤ flags))).take data) m.hold) m.value, 0) := by
    rw [Hq.out]; unfold DevM.take; rw [if_neg (by simp), if_neg (by dsimp only; omega), if_neg (by dsimp only; omega), if_pos ⟨rfl, hnext.1, hnext.2.1, hnext.2.2, hl, hn⟩]; rfl
  have Hq2 := Lib.hid hq
  have Hl := Lib.hid hl
  have Hnx := Lib.hid hnext
  clear Hq hq hnext hl
  go_wp2_with fail
  go_region_held3 (fun w' => w'.cell? ⟨a, 1, none⟩ = some (.int .i64 m.p.out) ∧ w'.cell? ⟨a, 4, none⟩ = some (.int .u32 m.p.count) ∧ w'.cell? ⟨u, 0, none⟩ = some (.int .i64 4) ∧ w'.cell? ⟨u, 1, none⟩ = some (.int .u32 code) ∧ w'.cell? ⟨u, 2, none⟩ = some (.int .u32 session) ∧ w'.cell? ⟨u, 3, none⟩ = some (.int .u32 number) ∧ w'.cell? ⟨u, 4, none⟩ = some (.int .i64 flags) ∧ w'.cell? ⟨u, 5, none⟩ = some (.slice A data.length cA)) (with_reducible (first | exact devSU hbA hU)) (first
    | (go_at_call 149; refine hnx.mono ?_; rintro e W2 ⟨rfl, hbn⟩; replace hbA := hbA.below hbn hal; replace hU := hU.below hbn hul))
  all_goals
    have hb2 := hb1d.trans (hbn.mono hb1d.size)
    have h2 := h.below hb2
    have huc := hU.cell
    have hcall := devFed_any B a mb m F 4 code session number flags data A cA Br W2 h2.is_ h.inv Hnx.out.2.2 hn h.fl Hl.out h2.rd h2.rb h.af
    rw [← Hq2.out] at hcall
    go_wp2_with fail
    refine (hcall).mono ?_
    rintro e W4 h4
    obtain ⟨x5, rfl, ho5, t5⟩ := DevAns.of2 hI0 hb2 h4
    obtain ⟨A5, c5, rfl⟩ := own_slice ho5
    go_wp2_with fail
    refine bodyPost_ret (v := .tuple #[.slice A5 q.2.1.length c5, .int .i64 q.2.2]) (by simp [results, Tryz.results104, go_sem]) rfl ⟨_, rfl, ho5, t5⟩
end Go.Proofs.YtlldgfejcjnpkaaGreat
/- A device takes a unit: a value (2). -/
namespace Go.Proofs.YtlldgfejcjnpkaaGreat
open Go.RowKit
set_option maxHeartbeats 10000000
set_option maxRecDepth 100000

theorem devTake_data2 (B a mb : Nat) (m : DevM) (F : Nat → Prop) (code session number flags : Int) (data : List UInt8) (A : Option Addr) (cA Br : Nat) (w : World) (h : DTake B w a mb m F flags data A Br)
    (hnext : m.state = 4 ∧ session = m.session ∧ m.number < number) (hl : (data.length : Int) = m.p.out) (hn : ¬ number < m.p.count) :
    Calls Tryz.prog 104 #[.pointer (some ⟨a, 0, none⟩), .agg #[.int .i64 4, .int .u32 code, .int .u32 session, .int .u32 number, .int .i64 flags, .slice A data.length cA]] w fun e w' => DevAns B w a mb F (m.take ⟨4, code, session, number, flags, data⟩) e w' := by
  have H0hnext := Lib.hid hnext
  have H0hl := Lib.hid hl
  have H0hn := Lib.hid hn
  clear hnext hl hn
  obtain ⟨q, Hq⟩ : ∃ q, Hid (q = m.take ⟨4, code, session, number, flags, data⟩) := ⟨_, Lib.hid rfl⟩
  rw [← Hq.out]
  have hI0 := h.is_
  have hb1 : Below w.heap.size w (w.alloc (.cells #[.int .i64 4, .int .u32 code, .int .u32 session, .int .u32 number, .int .i64 flags, .slice A data.length cA] 64)) := (Below.refl _ _).alloc (Nat.le_refl _) _
  have h1 := h.below hb1
  have hU := Blk.new w 64 #[.int .i64 4, .int .u32 code, .int .u32 session, .int .u32 number, .int .i64 flags, .slice A data.length cA]
  obtain ⟨⟨κ, c, d, v, g, val, hH, hF⟩, hlo⟩ := h.is_
  have hA1 := hH.below hb1
  unfold DevAns
  go_enter Tryz.func104, Tryz.ntmps104
  go_upto_region 1 with fail
  obtain ⟨u, Hu⟩ : ∃ e, Hid (e = w.heap.size) := ⟨_, Lib.hid rfl⟩
  rw [← Hu.out] at hU ⊢
  generalize w.alloc (.cells #[.int .i64 4, .int .u32 code, .int .u32 session, .int .u32 number, .int .i64 flags, .slice A data.length cA] 64) = W1 at *
  have hc := hA1.blk.cell
  unfold devCells at hc
  have huc := hU.cell
  have hnx := devNext_any B a mb m F 4 code session number flags (.slice A data.length cA) W1.drew (h1.is_.below (Below.refl W1.heap.size W1).drew)
  have hb1d := hb1.drew
  have hbA := hA1.drew.blk
  replace hU := hU.drew
  have hul := hU.lt
  have hal := hbA.lt
  have hnext := H0hnext.out
  have hl := H0hl.out
  have hn := H0hn.out
  rw [decide_eq_true hnext] at hnx
  have gl : ((data.length : Int) == m.p.out) = true := by simpa using hl
  have hq : q = m.odds 130 := by
    rw [Hq.out]; unfold DevM.take; rw [if_neg (by simp), if_neg (by dsimp only; omega), if_neg (by dsimp only; omega), if_neg (by dsimp only; omega), if_neg (by dsimp only; omega)]
  clear Hq hnext hl
  go_wp2_with fail
  go_region_held3 (fun w' => w'.cell? ⟨a, 1, none⟩ = some (.int .i64 m.p.out) ∧ w'.cell? ⟨a, 4, none⟩ = some (.int .u32 m.p.count) ∧ w'.cell? ⟨u, 0, none⟩ = some (.int .i64 4) ∧ w'.cell? ⟨u, 1, none⟩ = some (.int .u32 code) ∧ w'.cell? ⟨u, 2, none⟩ = some (.int .u32 session) ∧ w'.cell? ⟨u, 3, none⟩ = some (.int .u32 number) ∧ w'.cell? ⟨u, 4, none⟩ = some (.int .i64 flags) ∧ w'.cell? ⟨u, 5, none⟩ = some (.slice A data.length cA)) (with_reducible (first | exact devSU hbA hU)) (first
    | (go_at_call 149; refine hnx.mono ?_; rintro e W2 ⟨rfl, hbn⟩; replace hbA := hbA.below hbn hal; replace hU := hU.below hbn hul))
  all_goals
    have hb2 := hb1d.trans (hbn.mono hb1d.size)
    have h2 := h.below hb2
    have huc := hU.cell
    have hcall := devOdds_any B a mb m F 130 W2 h2.is_ h.inv (by have := h.len; omega)
    rw [← hq] at hcall
    clear hq
    go_wp2_with fail
    refine (hcall).mono ?_
    rintro e W4 h4
    obtain ⟨x5, rfl, ho5, t5⟩ := DevAns.of2 hI0 hb2 h4
    obtain ⟨A5, c5, rfl⟩ := own_slice ho5
    go_wp2_with fail
    refine bodyPost_ret (v := .tuple #[.slice A5 q.2.1.length c5, .int .i64 q.2.2]) (by simp [results, Tryz.results104, go_sem]) rfl ⟨_, rfl, ho5, t5⟩
end Go.Proofs.YtlldgfejcjnpkaaGreat
/- A device takes a unit: a value (3). -/
namespace Go.Proofs.YtlldgfejcjnpkaaGreat
open Go.RowKit
set_option maxHeartbeats 10000000
set_option maxRecDepth 100000

theorem devTake_data3 (B a mb : Nat) (m : DevM) (F : Nat → Prop) (code session number flags : Int) (data : List UInt8) (A : Option Addr) (cA Br : Nat) (w : World) (h : DTake B w a mb m F flags data A Br)
    (hnext : m.state = 4 ∧ session = m.session ∧ m.number < number) (hl : ¬ (data.length : Int) = m.p.out) :
    Calls Tryz.prog 104 #[.pointer (some ⟨a, 0, none⟩), .agg #[.int .i64 4, .int .u32 code, .int .u32 session, .int .u32 number, .int .i64 flags, .slice A data.length cA]] w fun e w' => DevAns B w a mb F (m.take ⟨4, code, session, number, flags, data⟩) e w' := by
  have H0hnext := Lib.hid hnext
  have H0hl := Lib.hid hl
  clear hnext hl
  obtain ⟨q, Hq⟩ : ∃ q, Hid (q = m.take ⟨4, code, session, number, flags, data⟩) := ⟨_, Lib.hid rfl⟩
  rw [← Hq.out]
  have hI0 := h.is_
  have hb1 : Below w.heap.size w (w.alloc (.cells #[.int .i64 4, .int .u32 code, .int .u32 session, .int .u32 number, .int .i64 flags, .slice A data.length cA] 64)) := (Below.refl _ _).alloc (Nat.le_refl _) _
  have h1 := h.below hb1
  have hU := Blk.new w 64 #[.int .i64 4, .int .u32 code, .int .u32 session, .int .u32 number, .int .i64 flags, .slice A data.length cA]
  obtain ⟨⟨κ, c, d, v, g, val, hH, hF⟩, hlo⟩ := h.is_
  have hA1 := hH.below hb1
  unfold DevAns
  go_enter Tryz.func104, Tryz.ntmps104
  go_upto_region 1 with fail
  obtain ⟨u, Hu⟩ : ∃ e, Hid (e = w.heap.size) := ⟨_, Lib.hid rfl⟩
  rw [← Hu.out] at hU ⊢
  generalize w.alloc (.cells #[.int .i64 4, .int .u32 code, .int .u32 session, .int .u32 number, .int .i64 flags, .slice A data.length cA] 64) = W1 at *
  have hc := hA1.blk.cell
  unfold devCells at hc
  have huc := hU.cell
  have hnx := devNext_any B a mb m F 4 code session number flags (.slice A data.length cA) W1.drew (h1.is_.below (Below.refl W1.heap.size W1).drew)
  have hb1d := hb1.drew
  have hbA := hA1.drew.blk
  replace hU := hU.drew
  have hul := hU.lt
  have hal := hbA.lt
  have hnext := H0hnext.out
  have hl := H0hl.out
  rw [decide_eq_true hnext] at hnx
  have gl : ((data.length : Int) == m.p.out) = false := by simpa using hl
  have hq : q = m.odds 130 := by
    rw [Hq.out]; unfold DevM.take; rw [if_neg (by simp), if_neg (by dsimp only; omega), if_neg (by dsimp only; omega), if_neg (by dsimp only; omega), if_neg (by dsimp only; omega)]
  clear Hq hnext
  go_wp2_with fail
  refine wp_region_held_drew (S := (fun w' => w'.cell? ⟨a, 1, none⟩ = some (.int .i64 m.p.out) ∧ w'.cell? ⟨a, 4, none⟩ = some (.int .u32 m.p.count) ∧ w'.cell? ⟨u, 0, none⟩ = some (.int .i64 4) ∧ w'.cell? ⟨u, 1, none⟩ = some (.int .u32 code) ∧ w'.cell? ⟨u, 2, none⟩ = some (.int .u32 session) ∧ w'.cell? ⟨u, 3, none⟩ = some (.int .u32 number) ∧ w'.cell? ⟨u, 4, none⟩ = some (.int .i64 flags) ∧ w'.cell? ⟨u, 5, none⟩ = some (.slice A data.length cA))) (by kernel_rfl) ?_ (fun hHeld => ?_)
  · exact devSU hbA hU
  refine wpAnyH_take (i := 0) (v := ?_) rfl (by kernel_rfl) (by kernel_rfl) (by kernel_rfl) (fun _ _ _ h => h) (Or.inl ⟨by rfl, ?_⟩) (by assumption) ?_
  rotate_left
  · intro w hSw
    try dsimp only at hSw
    go_simp
    try with_reducible rfl
  change wpAnyH _ _ _ _ _ _ _ (Act.put _ (some 86) _) _
  try simp only [Act.put, List.setIfInBounds_toArray, List.set_cons_zero, List.set_cons_succ]
  refine wpAnyH_take (i := 1) (v := ?_) rfl (by kernel_rfl) (by kernel_rfl) (by kernel_rfl) (fun _ _ _ h => h) (Or.inl ⟨by rfl, ?_⟩) (by assumption) ?_
  rotate_left
  · intro w hSw
    try dsimp only at hSw
    go_simp
    try with_reducible rfl
  change wpAnyH _ _ _ _ _ _ _ (Act.put _ (some 87) _) _
  try simp only [Act.put, List.setIfInBounds_toArray, List.set_cons_zero, List.set_cons_succ]
  refine wpAnyH_ready (rs := [2]) (by kernel_rfl) (by simp) ?_
  refine AllReadyH.cons rfl (fun K hK => ?_) AllReadyH.nil
  go_simp
  go_at_call 149
  refine hnx.mono ?_
  rintro e W2 ⟨rfl, hbn⟩
  have hbA2 := hbA.below hbn hal
  have hU2 := hU.below hbn hul
  refine hK.out _ _ (devSU hbA2 hU2) (fun hHeld2 => ?_)
  clear hK K hHeld
  try simp only [Act.put, List.setIfInBounds_toArray, List.set_cons_zero, List.set_cons_succ]
  refine wpAnyH_take (i := 3) (v := ?_) rfl (by kernel_rfl) (by kernel_rfl) (by kernel_rfl) (fun _ _ _ h => h) (Or.inl ⟨by rfl, ?_⟩) (by assumption) ?_
  rotate_left
  · intro w hSw
    try dsimp only at hSw
    go_simp
    try with_reducible rfl
  change wpAnyH _ _ _ _ _ _ _ (Act.put _ (some 89) _) _
  try simp only [Act.put, List.setIfInBounds_toArray, List.set_cons_zero, List.set_cons_succ]
  refine wpAnyH_take (i := 4) (v := ?_) rfl (by kernel_rfl) (by kernel_rfl) (by kernel_rfl) (fun _ _ _ h => h) (Or.inl ⟨by rfl, ?_⟩) (by assumption) ?_
  rotate_left
  · intro w hSw
    try dsimp only at hSw
    go_simp
    try with_reducible rfl
  change wpAnyH _ _ _ _ _ _ _ (Act.put _ (some 90) _) _
  try simp only [Act.put, List.setIfInBounds_toArray, List.set_cons_zero, List.set_cons_succ]
  refine wpAnyH_take (i := 5) (v := ?_) rfl (by kernel_rfl) (by kernel_rfl) (by kernel_rfl) (fun _ _ _ h => h) (Or.inl ⟨by rfl, ?_⟩) (by assumption) ?_
  rotate_left
  · intro w hSw
    try dsimp only at hSw
    go_simp
    try with_reducible rfl
  change wpAnyH _ _ _ _ _ _ _ (Act.put _ (some 91) _) _
  try simp only [Act.put, List.setIfInBounds_toArray, List.set_cons_zero, List.set_cons_succ]
  refine wpAnyH_take (i := 6) (v := ?_) rfl (by kernel_rfl) (by kernel_rfl) (by kernel_rfl) (fun _ _ _ h => h) (Or.inl ⟨by rfl, ?_⟩) (by assumption) ?_
  rotate_left
  · intro w hSw
    try dsimp only at hSw
    go_simp
    try with_reducible rfl
  change wpAnyH _ _ _ _ _ _ _ (Act.put _ (some 92) _) _
  try simp only [Act.put, List.setIfInBounds_toArray, List.set_cons_zero, List.set_cons_succ]
  refine wpAnyH_take (i := 7) (v := ?_) rfl (by kernel_rfl) (by kernel_rfl) (by kernel_rfl) (fun _ _ _ h => h) (Or.inl ⟨by rfl, ?_⟩) (by assumption) ?_
  rotate_left
  · intro w hSw
    try dsimp only at hSw
    go_simp
    try with_reducible rfl
  change wpAnyH _ _ _ _ _ _ _ (Act.put _ (some 93) _) _
  try simp only [Act.put, List.setIfInBounds_toArray, List.set_cons_zero, List.set_cons_succ]
  refine wpAnyH_take (i := 8) (v := ?_) rfl (by kernel_rfl) (by kernel_rfl) (by kernel_rfl) (fun _ _ _ h => h) (Or.inl ⟨by rfl, ?_⟩) (by assumption) ?_
  rotate_left
  · intro w hSw
    try dsimp only at hSw
    go_simp
    try with_reducible rfl
  change wpAnyH _ _ _ _ _ _ _ (Act.put _ (some 94) _) _
  try simp only [Act.put, List.setIfInBounds_toArray, List.set_cons_zero, List.set_cons_succ]
  refine wpAnyH_take (i := 9) (v := ?_) rfl (by kernel_rfl) (by kernel_rfl) (by kernel_rfl) (fun _ _ _ h => h) (Or.inl ⟨by rfl, ?_⟩) (by assumption) ?_
  rotate_left
  · intro w hSw
    try dsimp only at hSw
    go_simp
    try with_reducible rfl
  change wpAnyH _ _ _ _ _ _ _ (Act.put _ (some 95) _) _
  try simp only [Act.put, List.setIfInBounds_toArray, List.set_cons_zero, List.set_cons_succ]
  refine wpAnyH_take (i := 10) (v := ?_) rfl (by kernel_rfl) (by kernel_rfl) (by kernel_rfl) (fun _ _ _ h => h) (Or.inl ⟨by rfl, ?_⟩) (by assumption) ?_
  rotate_left
  · intro w hSw
    try dsimp only at hSw
    go_simp
    try with_reducible rfl
  change wpAnyH _ _ _ _ _ _ _ (Act.put _ (some 96) _) _
  try simp only [Act.put, List.setIfInBounds_toArray, List.set_cons_zero, List.set_cons_succ]
  refine wpAnyH_take (i := 11) (v := ?_) rfl (by kernel_rfl) (by kernel_rfl) (by kernel_rfl) (fun _ _ _ h => h) (Or.inl ⟨by rfl, ?_⟩) (by assumption) ?_
  rotate_left
  · intro w hSw
    try dsimp only at hSw
    go_simp
    try with_reducible rfl
  change wpAnyH _ _ _ _ _ _ _ (Act.put _ (some 97) _) _
  try simp only [Act.put, List.setIfInBounds_toArray, List.set_cons_zero, List.set_cons_succ]
  refine wpAnyH_take (i := 12) (v := ?_) rfl (by kernel_rfl) (by kernel_rfl) (by kernel_rfl) (fun _ _ _ h => h) (Or.inl ⟨by rfl, ?_⟩) (by assumption) ?_
  rotate_left
  · intro w hSw
    try dsimp only at hSw
    go_simp
    try with_reducible rfl
  change wpAnyH _ _ _ _ _ _ _ (Act.put _ (some 98) _) _
  try simp only [Act.put, List.setIfInBounds_toArray, List.set_cons_zero, List.set_cons_succ]
  refine wpAnyH_take (i := 13) (v := ?_) rfl (by kernel_rfl) (by kernel_rfl) (by kernel_rfl) (fun _ _ _ h => h) (Or.inl ⟨by rfl, ?_⟩) (by assumption) ?_
  rotate_left
  · intro w hSw
    try dsimp only at hSw
    go_simp
    try with_reducible rfl
  change wpAnyH _ _ _ _ _ _ _ (Act.put _ (some 99) _) _
  try simp only [Act.put, List.setIfInBounds_toArray, List.set_cons_zero, List.set_cons_succ]
  refine wpAnyH_take (i := 14) (v := ?_) rfl (by kernel_rfl) (by kernel_rfl) (by kernel_rfl) (fun _ _ _ h => h) (Or.inl ⟨by rfl, ?_⟩) (by assumption) ?_
  rotate_left
  · intro w hSw
    try dsimp only at hSw
    go_simp
    try with_reducible rfl
  change wpAnyH _ _ _ _ _ _ _ (Act.put _ (some 100) _) _
  try simp only [Act.put, List.setIfInBounds_toArray, List.set_cons_zero, List.set_cons_succ]
  refine wpAnyH_take (i := 15) (v := undef) rfl (by kernel_rfl) (by kernel_rfl) (by kernel_rfl) (fun _ _ _ h => h) (Or.inr ⟨by rfl, rfl⟩) (by assumption) ?_
  change wpAnyH _ _ _ _ _ _ _ (Act.put _ (some 101) _) _
  try simp only [Act.put, List.setIfInBounds_toArray, List.set_cons_zero, List.set_cons_succ]
  refine wpAnyH_take (i := 16) (v := undef) rfl (by kernel_rfl) (by kernel_rfl) (by kernel_rfl) (fun _ _ _ h => h) (Or.inr ⟨by rfl, rfl⟩) (by assumption) ?_
  change wpAnyH _ _ _ _ _ _ _ (Act.put _ (some 102) _) _
  try simp only [Act.put, List.setIfInBounds_toArray, List.set_cons_zero, List.set_cons_succ]
  refine wpAnyH_take (i := 17) (v := undef) rfl (by kernel_rfl) (by kernel_rfl) (by kernel_rfl) (fun _ _ _ h => h) (Or.inr ⟨by rfl, rfl⟩) (by assumption) ?_
  change wpAnyH _ _ _ _ _ _ _ (Act.put _ (some 103) _) _
  try simp only [Act.put, List.setIfInBounds_toArray, List.set_cons_zero, List.set_cons_succ]
  refine wpAnyH_take (i := 18) (v := undef) rfl (by kernel_rfl) (by kernel_rfl) (by kernel_rfl) (fun _ _ _ h => h) (Or.inr ⟨by rfl, rfl⟩) (by assumption) ?_
  change wpAnyH _ _ _ _ _ _ _ (Act.put _ (some 104) _) _
  try simp only [Act.put, List.setIfInBounds_toArray, List.set_cons_zero, List.set_cons_succ]
  refine wpAnyH_take (i := 19) (v := undef) rfl (by kernel_rfl) (by kernel_rfl) (by kernel_rfl) (fun _ _ _ h => h) (Or.inr ⟨by rfl, rfl⟩) (by assumption) ?_
  change wpAnyH _ _ _ _ _ _ _ (Act.put _ (some 105) _) _
  try simp only [Act.put, List.setIfInBounds_toArray, List.set_cons_zero, List.set_cons_succ]
  refine wpAnyH_take (i := 20) (v := undef) rfl (by kernel_rfl) (by kernel_rfl) (by kernel_rfl) (fun _ _ _ h => h) (Or.inr ⟨by rfl, rfl⟩) (by assumption) ?_
  change wpAnyH _ _ _ _ _ _ _ (Act.put _ (some 106) _) _
  try simp only [Act.put, List.setIfInBounds_toArray, List.set_cons_zero, List.set_cons_succ]
  refine wpAnyH_take (i := 21) (v := undef) rfl (by kernel_rfl) (by kernel_rfl) (by kernel_rfl) (fun _ _ _ h => h) (Or.inr ⟨by rfl, rfl⟩) (by assumption) ?_
  change wpAnyH _ _ _ _ _ _ _ (Act.put _ (some 107) _) _
  try simp only [Act.put, List.setIfInBounds_toArray, List.set_cons_zero, List.set_cons_succ]
  refine wpAnyH_take (i := 22) (v := undef) rfl (by kernel_rfl) (by kernel_rfl) (by kernel_rfl) (fun _ _ _ h => h) (Or.inr ⟨by rfl, rfl⟩) (by assumption) ?_
  change wpAnyH _ _ _ _ _ _ _ (Act.put _ (some 108) _) _
  try simp only [Act.put, List.setIfInBounds_toArray, List.set_cons_zero, List.set_cons_succ]
  refine wpAnyH_take (i := 23) (v := ?_) rfl (by kernel_rfl) (by kernel_rfl) (by kernel_rfl) (fun _ _ _ h => h) (Or.inl ⟨by rfl, ?_⟩) (by assumption) ?_
  rotate_left
  · intro w hSw
    try dsimp only at hSw
    go_simp
    try with_reducible rfl
  change wpAnyH _ _ _ _ _ _ _ (Act.put _ (some 109) _) _
  try simp only [Act.put, List.setIfInBounds_toArray, List.set_cons_zero, List.set_cons_succ]
  refine wpAnyH_done (by kernel_rfl) ?_ _
  all_goals
    have hb2 := hb1d.trans (hbn.mono hb1d.size)
    have h2 := h.below hb2
    have hcall := devOdds_any B a mb m F 130 W2 h2.is_ h.inv (by have := h.len; omega)
    rw [← hq] at hcall
    clear hq
    go_wp2_with fail
    refine (hcall).mono ?_
    rintro e W4 h4
    obtain ⟨x5, rfl, ho5, t5⟩ := DevAns.of2 hI0 hb2 h4
    obtain ⟨A5, c5, rfl⟩ := own_slice ho5
    go_wp2_with fail
    refine bodyPost_ret (v := .tuple #[.slice A5 q.2.1.length c5, .int .i64 q.2.2]) (by simp [results, Tryz.results104, go_sem]) rfl ⟨_, rfl, ho5, t5⟩
end Go.Proofs.YtlldgfejcjnpkaaGreat
/- A device takes a unit: a value (4). -/
namespace Go.Proofs.YtlldgfejcjnpkaaGreat
open Go.RowKit
set_option maxHeartbeats 10000000
set_option maxRecDepth 100000

theorem devTake_data4 (B a mb : Nat) (m : DevM) (F : Nat → Prop) (code session number flags : Int) (data : List UInt8) (A : Option Addr) (cA Br : Nat) (w : World) (h : DTake B w a mb m F flags data A Br)
    (hnext : ¬ (m.state = 4 ∧ session = m.session ∧ m.number < number)) :
    Calls Tryz.prog 104 #[.pointer (some ⟨a, 0, none⟩), .agg #[.int .i64 4, .int .u32 code, .int .u32 session, .int .u32 number, .int .i64 flags, .slice A data.length cA]] w fun e w' => DevAns B w a mb F (m.take ⟨4, code, session, number, flags, data⟩) e w' := by
  have H0hnext := Lib.hid hnext
  clear hnext
  obtain ⟨q, Hq⟩ : ∃ q, Hid (q = m.take ⟨4, code, session, number, flags, data⟩) := ⟨_, Lib.hid rfl⟩
  rw [← Hq.out]
  have hI0 := h.is_
  have hb1 : Below w.heap.size w (w.alloc (.cells #[.int .i64 4, .int .u32 code, .int .u32 session, .int .u32 number, .int .i64 flags, .slice A data.length cA] 64)) := (Below.refl _ _).alloc (Nat.le_refl _) _
  have h1 := h.below hb1
  have hU := Blk.new w 64 #[.int .i64 4, .int .u32 code, .int .u32 session, .int .u32 number, .int .i64 flags, .slice A data.length cA]
  obtain ⟨⟨κ, c, d, v, g, val, hH, hF⟩, hlo⟩ := h.is_
  have hA1 := hH.below hb1
  unfold DevAns
  go_enter Tryz.func104, Tryz.ntmps104
  go_upto_region 1 with fail
  obtain ⟨u, Hu⟩ : ∃ e, Hid (e = w.heap.size) := ⟨_, Lib.hid rfl⟩
  rw [← Hu.out] at hU ⊢
  generalize w.alloc (.cells #[.int .i64 4, .int .u32 code, .int .u32 session, .int .u32 number, .int .i64 flags, .slice A data.length cA] 64) = W1 at *
  have hc := hA1.blk.cell
  unfold devCells at hc
  have huc := hU.cell
  have hnx := devNext_any B a mb m F 4 code session number flags (.slice A data.length cA) W1.drew (h1.is_.below (Below.refl W1.heap.size W1).drew)
  have hb1d := hb1.drew
  have hbA := hA1.drew.blk
  replace hU := hU.drew
  have hul := hU.lt
  have hal := hbA.lt
  have hnext := H0hnext.out
  rw [decide_eq_false hnext] at hnx
  have hq : q = m.odds 130 := by
    rw [Hq.out]; unfold DevM.take; rw [if_neg (by simp), if_neg (by dsimp only; omega), if_neg (by dsimp only; omega), if_neg (by dsimp only; omega), if_neg (by dsimp only; omega)]
  clear Hq hnext
  go_wp2_with fail
  refine wp_region_held_drew (S := (fun w' => w'.cell? ⟨a, 1, none⟩ = some (.int .i64 m.p.out) ∧ w'.cell? ⟨a, 4, none⟩ = some (.int .u32 m.p.count) ∧ w'.cell? ⟨u, 0, none⟩ = some (.int .i64 4) ∧ w'.cell? ⟨u, 1, none⟩ = some (.int .u32 code) ∧ w'.cell? ⟨u, 2, none⟩ = some (.int .u32 session) ∧ w'.cell? ⟨u, 3, none⟩ = some (.int .u32 number) ∧ w'.cell? ⟨u, 4, none⟩ = some (.int .i64 flags) ∧ w'.cell? ⟨u, 5, none⟩ = some (.slice A data.length cA))) (by kernel_rfl) ?_ (fun hHeld => ?_)
  · exact devSU hbA hU
  refine wpAnyH_take (i := 0) (v := ?_) rfl (by kernel_rfl) (by kernel_rfl) (by kernel_rfl) (fun _ _ _ h => h) (Or.inl ⟨by rfl, ?_⟩) (by assumption) ?_
  rotate_left
  · intro w hSw
    try dsimp only at hSw
    go_simp
    try with_reducible rfl
  change wpAnyH _ _ _ _ _ _ _ (Act.put _ (some 86) _) _
  try simp only [Act.put, List.setIfInBounds_toArray, List.set_cons_zero, List.set_cons_succ]
  refine wpAnyH_take (i := 1) (v := ?_) rfl (by kernel_rfl) (by kernel_rfl) (by kernel_rfl) (fun _ _ _ h => h) (Or.inl ⟨by rfl, ?_⟩) (by assumption) ?_
  rotate_left
  · intro w hSw
    try dsimp only at hSw
    go_simp
    try with_reducible rfl
  change wpAnyH _ _ _ _ _ _ _ (Act.put _ (some 87) _) _
  try simp only [Act.put, List.setIfInBounds_toArray, List.set_cons_zero, List.set_cons_succ]
  refine wpAnyH_ready (rs := [2]) (by kernel_rfl) (by simp) ?_
  refine AllReadyH.cons rfl (fun K hK => ?_) AllReadyH.nil
  go_simp
  go_at_call 149
  refine hnx.mono ?_
  rintro e W2 ⟨rfl, hbn⟩
  have hbA2 := hbA.below hbn hal
  have hU2 := hU.below hbn hul
  refine hK.out _ _ (devSU hbA2 hU2) (fun hHeld2 => ?_)
  clear hK K hHeld
  try simp only [Act.put, List.setIfInBounds_toArray, List.set_cons_zero, List.set_cons_succ]
  refine wpAnyH_take (i := 3) (v := ?_) rfl (by kernel_rfl) (by kernel_rfl) (by kernel_rfl) (fun _ _ _ h => h) (Or.inl ⟨by rfl, ?_⟩) (by assumption) ?_
  rotate_left
  · intro w hSw
    try dsimp only at hSw
    go_simp
    try with_reducible rfl
  change wpAnyH _ _ _ _ _ _ _ (Act.put _ (some 89) _) _
  try simp only [Act.put, List.setIfInBounds_toArray, List.set_cons_zero, List.set_cons_succ]
  refine wpAnyH_take (i := 4) (v := undef) rfl (by kernel_rfl) (by kernel_rfl) (by kernel_rfl) (fun _ _ _ h => h) (Or.inr ⟨by rfl, rfl⟩) (by assumption) ?_
  change wpAnyH _ _ _ _ _ _ _ (Act.put _ (some 90) _) _
  try simp only [Act.put, List.setIfInBounds_toArray, List.set_cons_zero, List.set_cons_succ]
  refine wpAnyH_take (i := 5) (v := undef) rfl (by kernel_rfl) (by kernel_rfl) (by kernel_rfl) (fun _ _ _ h => h) (Or.inr ⟨by rfl, rfl⟩) (by assumption) ?_
  change wpAnyH _ _ _ _ _ _ _ (Act.put _ (some 91) _) _
  try simp only [Act.put, List.setIfInBounds_toArray, List.set_cons_zero, List.set_cons_succ]
  refine wpAnyH_take (i := 6) (v := undef) rfl (by kernel_rfl) (by kernel_rfl) (by kernel_rfl) (fun _ _ _ h => h) (Or.inr ⟨by rfl, rfl⟩) (by assumption) ?_
  change wpAnyH _ _ _ _ _ _ _ (Act.put _ (some 92) _) _
  try simp only [Act.put, List.setIfInBounds_toArray, List.set_cons_zero, List.set_cons_succ]
  refine wpAnyH_take (i := 7) (v := undef) rfl (by kernel_rfl) (by kernel_rfl) (by kernel_rfl) (fun _ _ _ h => h) (Or.inr ⟨by rfl, rfl⟩) (by assumption) ?_
  change wpAnyH _ _ _ _ _ _ _ (Act.put _ (some 93) _) _
  try simp only [Act.put, List.setIfInBounds_toArray, List.set_cons_zero, List.set_cons_succ]
  refine wpAnyH_take (i := 8) (v := undef) rfl (by kernel_rfl) (by kernel_rfl) (by kernel_rfl) (fun _ _ _ h => h) (Or.inr ⟨by rfl, rfl⟩) (by assumption) ?_
  change wpAnyH _ _ _ _ _ _ _ (Act.put _ (some 94) _) _
  try simp only [Act.put, List.setIfInBounds_toArray, List.set_cons_zero, List.set_cons_succ]
  refine wpAnyH_take (i := 9) (v := undef) rfl (by kernel_rfl) (by kernel_rfl) (by kernel_rfl) (fun _ _ _ h => h) (Or.inr ⟨by rfl, rfl⟩) (by assumption) ?_
  change wpAnyH _ _ _ _ _ _ _ (Act.put _ (some 95) _) _
  try simp only [Act.put, List.setIfInBounds_toArray, List.set_cons_zero, List.set_cons_succ]
  refine wpAnyH_take (i := 10) (v := undef) rfl (by kernel_rfl) (by kernel_rfl) (by kernel_rfl) (fun _ _ _ h => h) (Or.inr ⟨by rfl, rfl⟩) (by assumption) ?_
  change wpAnyH _ _ _ _ _ _ _ (Act.put _ (some 96) _) _
  try simp only [Act.put, List.setIfInBounds_toArray, List.set_cons_zero, List.set_cons_succ]
  refine wpAnyH_take (i := 11) (v := undef) rfl (by kernel_rfl) (by kernel_rfl) (by kernel_rfl) (fun _ _ _ h => h) (Or.inr ⟨by rfl, rfl⟩) (by assumption) ?_
  change wpAnyH _ _ _ _ _ _ _ (Act.put _ (some 97) _) _
  try simp only [Act.put, List.setIfInBounds_toArray, List.set_cons_zero, List.set_cons_succ]
  refine wpAnyH_take (i := 12) (v := undef) rfl (by kernel_rfl) (by kernel_rfl) (by kernel_rfl) (fun _ _ _ h => h) (Or.inr ⟨by rfl, rfl⟩) (by assumption) ?_
  change wpAnyH _ _ _ _ _ _ _ (Act.put _ (some 98) _) _
  try simp only [Act.put, List.setIfInBounds_toArray, List.set_cons_zero, List.set_cons_succ]
  refine wpAnyH_take (i := 13) (v := ?_) rfl (by kernel_rfl) (by kernel_rfl) (by kernel_rfl) (fun _ _ _ h => h) (Or.inl ⟨by rfl, ?_⟩) (by assumption) ?_
  rotate_left
  · intro w hSw
    try dsimp only at hSw
    go_simp
    try with_reducible rfl
  change wpAnyH _ _ _ _ _ _ _ (Act.put _ (some 99) _) _
  try simp only [Act.put, List.setIfInBounds_toArray, List.set_cons_zero, List.set_cons_succ]
  refine wpAnyH_take (i := 14) (v := ?_) rfl (by kernel_rfl) (by kernel_rfl) (by kernel_rfl) (fun _ _ _ h => h) (Or.inl ⟨by rfl, ?_⟩) (by assumption) ?_
  rotate_left
  · intro w hSw
    try dsimp only at hSw
    go_simp
    try with_reducible rfl
  change wpAnyH _ _ _ _ _ _ _ (Act.put _ (some 100) _) _
  try simp only [Act.put, List.setIfInBounds_toArray, List.set_cons_zero, List.set_cons_succ]
  refine wpAnyH_take (i := 15) (v := undef) rfl (by kernel_rfl) (by kernel_rfl) (by kernel_rfl) (fun _ _ _ h => h) (Or.inr ⟨by rfl, rfl⟩) (by assumption) ?_
  change wpAnyH _ _ _ _ _ _ _ (Act.put _ (some 101) _) _
  try simp only [Act.put, List.setIfInBounds_toArray, List.set_cons_zero, List.set_cons_succ]
  refine wpAnyH_take (i := 16) (v := undef) rfl (by kernel_rfl) (by kernel_rfl) (by kernel_rfl) (fun _ _ _ h => h) (Or.inr ⟨by rfl, rfl⟩) (by assumption) ?_
  change wpAnyH _ _ _ _ _ _ _ (Act.put _ (some 102) _) _
  try simp only [Act.put, List.setIfInBounds_toArray, List.set_cons_zero, List.set_cons_succ]
  refine wpAnyH_take (i := 17) (v := undef) rfl (by kernel_rfl) (by kernel_rfl) (by kernel_rfl) (fun _ _ _ h => h) (Or.inr ⟨by rfl, rfl⟩) (by assumption) ?_
  change wpAnyH _ _ _ _ _ _ _ (Act.put _ (some 103) _) _
  try simp only [Act.put, List.setIfInBounds_toArray, List.set_cons_zero, List.set_cons_succ]
  refine wpAnyH_take (i := 18) (v := undef) rfl (by kernel_rfl) (by kernel_rfl) (by kernel_rfl) (fun _ _ _ h => h) (Or.inr ⟨by rfl, rfl⟩) (by assumption) ?_
  change wpAnyH _ _ _ _ _ _ _ (Act.put _ (some 104) _) _
  try simp only [Act.put, List.setIfInBounds_toArray, List.set_cons_zero, List.set_cons_succ]
  refine wpAnyH_take (i := 19) (v := undef) rfl (by kernel_rfl) (by kernel_rfl) (by kernel_rfl) (fun _ _ _ h => h) (Or.inr ⟨by rfl, rfl⟩) (by assumption) ?_
  change wpAnyH _ _ _ _ _ _ _ (Act.put _ (some 105) _) _
  try simp only [Act.put, List.setIfInBounds_toArray, List.set_cons_zero, List.set_cons_succ]
  refine wpAnyH_take (i := 20) (v := undef) rfl (by kernel_rfl) (by kernel_rfl) (by kernel_rfl) (fun _ _ _ h => h) (Or.inr ⟨by rfl, rfl⟩) (by assumption) ?_
  change wpAnyH _ _ _ _ _ _ _ (Act.put _ (some 106) _) _
  try simp only [Act.put, List.setIfInBounds_toArray, List.set_cons_zero, List.set_cons_succ]
  refine wpAnyH_take (i := 21) (v := undef) rfl (by kernel_rfl) (by kernel_rfl) (by kernel_rfl) (fun _ _ _ h => h) (Or.inr ⟨by rfl, rfl⟩) (by assumption) ?_
  change wpAnyH _ _ _ _ _ _ _ (Act.put _ (some 107) _) _
  try simp only [Act.put, List.setIfInBounds_toArray, List.set_cons_zero, List.set_cons_succ]
  refine wpAnyH_take (i := 22) (v := undef) rfl (by kernel_rfl) (by kernel_rfl) (by kernel_rfl) (fun _ _ _ h => h) (Or.inr ⟨by rfl, rfl⟩) (by assumption) ?_
  change wpAnyH _ _ _ _ _ _ _ (Act.put _ (some 108) _) _
  try simp only [Act.put, List.setIfInBounds_toArray, List.set_cons_zero, List.set_cons_succ]
  refine wpAnyH_take (i := 23) (v := ?_) rfl (by kernel_rfl) (by kernel_rfl) (by kernel_rfl) (fun _ _ _ h => h) (Or.inl ⟨by rfl, ?_⟩) (by assumption) ?_
  rotate_left
  · intro w hSw
    try dsimp only at hSw
    go_simp
    try with_reducible rfl
  change wpAnyH _ _ _ _ _ _ _ (Act.put _ (some 109) _) _
  try simp only [Act.put, List.setIfInBounds_toArray, List.set_cons_zero, List.set_cons_succ]
  refine wpAnyH_done (by kernel_rfl) ?_ _
  all_goals
    have hb2 := hb1d.trans (hbn.mono hb1d.size)
    have h2 := h.below hb2
    have hcall := devOdds_any B a mb m F 130 W2 h2.is_ h.inv (by have := h.len; omega)
    rw [← hq] at hcall
    clear hq
    go_wp2_with fail
    refine (hcall).mono ?_
    rintro e W4 h4
    obtain ⟨x5, rfl, ho5, t5⟩ := DevAns.of2 hI0 hb2 h4
    obtain ⟨A5, c5, rfl⟩ := own_slice ho5
    go_wp2_with fail
    refine bodyPost_ret (v := .tuple #[.slice A5 q.2.1.length c5, .int .i64 q.2.2]) (by simp [results, Tryz.results104, go_sem]) rfl ⟨_, rfl, ho5, t5⟩
end Go.Proofs.YtlldgfejcjnpkaaGreat
/- A device takes a unit: a value. -/
namespace Go.Proofs.YtlldgfejcjnpkaaGreat
open Go.RowKit
set_option maxHeartbeats 10000000
set_option maxRecDepth 100000

theorem devTake_data (B a mb : Nat) (m : DevM) (F : Nat → Prop) (code session number flags : Int) (data : List UInt8) (A : Option Addr) (cA Br : Nat) (w : World) (h : DTake B w a mb m F flags data A Br) :
    Calls Tryz.prog 104 #[.pointer (some ⟨a, 0, none⟩), .agg #[.int .i64 4, .int .u32 code, .int .u32 session, .int .u32 number, .int .i64 flags, .slice A data.length cA]] w fun e w' => DevAns B w a mb F (m.take ⟨4, code, session, number, flags, data⟩) e w' := by
  by_cases hnext : m.state = 4 ∧ session = m.session ∧ m.number < number
  · by_cases hl : (data.length : Int) = m.p.out
    · by_cases hn : number < m.p.count
      · exact devTake_data1 B a mb m F code session number flags data A cA Br w h hnext hl hn
      · exact devTake_data2 B a mb m F code session number flags data A cA Br w h hnext hl hn
    · exact devTake_data3 B a mb m F code session number flags data A cA Br w h hnext hl
  · exact devTake_data4 B a mb m F code session number flags data A cA Br w h hnext
end Go.Proofs.YtlldgfejcjnpkaaGreat
