/- The base of the laws of the host, part 12: contracts and plain lemmas, no statement. -/
import Derived.Test.YtfoldlbnkfnenaaGreatBase11
/- The reference's host: unit whole; Receive. -/
namespace Go.Proofs.YtfoldlbnkfnenaaGreat
open Go.RowKit
set_option maxHeartbeats 10000000
set_option maxRecDepth 100000
section
variable {B b : Nat} {m : HostM} {F : Nat → Prop} {A : Option Addr} {c Br : Nat} {w : World}
theorem rhUnit_idle (kind code session number flags : Int) (data : List UInt8) (h : RTakeAt B b m F ⟨kind, code, session, number, flags, data⟩ A c Br w) (hs : m.state = 1) (hst : (kind != 17) = true ∨ (kind = 17 ∧ decide (session ≤ m.session) = true)) :
    Calls Tryz.prog 52 #[.pointer (some ⟨b, 0, none⟩), unitVal ⟨kind, code, session, number, flags, data⟩ (.slice A data.length c)] w fun e w' => e = .returned (.int .i64 130) ∧ RHTo B w b m F w' := by
  have hI := h.is_
  have hsame := fun w' => RHTo.ofBelow (w' := w') h.is_
  obtain ⟨Al, cl, vv, val, hH⟩ := h.is_
  have hb0 : Below w.heap.size w (w.alloc (.cells #[.int .i64 kind, .int .u32 code, .int .u32 session, .int .u32 number, .int .i64 flags, .slice A data.length c] 60)) := (Below.refl _ _).alloc (Nat.le_refl _) _
  have hA1 := hH.below hb0
  have hU1 := Blk.new w 60 #[.int .i64 kind, .int .u32 code, .int .u32 session, .int .u32 number, .int .i64 flags, .slice A data.length c]
  have hua : w.heap.size ≠ b := by have := (hH.lo b hH.fb).2; omega
  have huF : ∀ x, F x → x ≠ w.heap.size := fun x hx e => by have := (hH.lo x hx).2; omega
  obtain ⟨u0, Hu0⟩ : ∃ e, Hid (e = w.heap.size) := ⟨_, Lib.hid rfl⟩
  clear h
  rcases hst with g1 | ⟨rfl, g1⟩
  all_goals
    have hc := hA1.blk.cell
    unfold rhCells at hc
    rw [hs] at hc
    unfold unitVal
    simp only
    go_enter Tryz.func52, Tryz.ntmps52
    go_upto_region 1 with fail
    rw [← Hu0.out] at hU1 hua huF ⊢
    generalize w.alloc (.cells _ 60) = W1 at *
    have huc := hU1.cell
    go_wp2_with fail
    go_big_quiet (fail)
    have hA2 := hA1.below (belowN (Below.refl _ W1) nq)
    have hU2 := hU1.drewN nq
    have hb2 := belowN hb0 nq
    generalize W1.drewN nq = W2 at *
    clear hc huc hA1 hU1 hb0
    have hc := hA2.blk.cell
    have huc := hU2.cell
    unfold rhCells at hc
    rw [hs] at hc
    go_wp2_with fail
    go_ret
    exact ⟨rfl, hsame _ hb2⟩
theorem rhUnit_other (kind code session number flags : Int) (data : List UInt8) (h : RTakeAt B b m F ⟨kind, code, session, number, flags, data⟩ A c Br w) (hs : (m.state == 1) = false) (hss : (session != m.session) = true) :
    Calls Tryz.prog 52 #[.pointer (some ⟨b, 0, none⟩), unitVal ⟨kind, code, session, number, flags, data⟩ (.slice A data.length c)] w fun e w' => e = .returned (.int .i64 130) ∧ RHTo B w b m F w' := by
  have hI := h.is_
  have hsame := fun w' => RHTo.ofBelow (w' := w') h.is_
  obtain ⟨Al, cl, vv, val, hH⟩ := h.is_
  have hb0 : Below w.heap.size w (w.alloc (.cells #[.int .i64 kind, .int .u32 code, .int .u32 session, .int .u32 number, .int .i64 flags, .slice A data.length c] 60)) := (Below.refl _ _).alloc (Nat.le_refl _) _
  have hA1 := hH.below hb0
  have hU1 := Blk.new w 60 #[.int .i64 kind, .int .u32 code, .int .u32 session, .int .u32 number, .int .i64 flags, .slice A data.length c]
  have hua : w.heap.size ≠ b := by have := (hH.lo b hH.fb).2; omega
  have huF : ∀ x, F x → x ≠ w.heap.size := fun x hx e => by have := (hH.lo x hx).2; omega
  obtain ⟨u0, Hu0⟩ : ∃ e, Hid (e = w.heap.size) := ⟨_, Lib.hid rfl⟩
  clear h
  have hc := hA1.blk.cell
  unfold rhCells at hc
  unfold unitVal
  simp only
  go_enter Tryz.func52, Tryz.ntmps52
  go_upto_region 1 with fail
  rw [← Hu0.out] at hU1 hua huF ⊢
  generalize w.alloc (.cells _ 60) = W1 at *
  have huc := hU1.cell
  go_wp2_with fail
  go_big_quiet (fail)
  have hA2 := hA1.below (belowN (Below.refl _ W1) nq)
  have hU2 := hU1.drewN nq
  have hb2 := belowN hb0 nq
  generalize W1.drewN nq = W2 at *
  clear hc huc hA1 hU1 hb0
  have hc := hA2.blk.cell
  have huc := hU2.cell
  unfold rhCells at hc
  go_wp2_with fail
  go_ret
  exact ⟨rfl, hsame _ hb2⟩
theorem rhUnit_stale (kind code number flags : Int) (data : List UInt8) (h : RTakeAt B b m F ⟨kind, code, m.session, number, flags, data⟩ A c Br w) (hst : Stale m kind number data.length ∨ m.state = 5) :
    Calls Tryz.prog 52 #[.pointer (some ⟨b, 0, none⟩), unitVal ⟨kind, code, m.session, number, flags, data⟩ (.slice A data.length c)] w fun e w' => e = .returned (.int .i64 130) ∧ RHTo B w b m F w' := by
  have hI := h.is_
  have hsame := fun w' => RHTo.ofBelow (w' := w') h.is_
  obtain ⟨Al, cl, vv, val, hH⟩ := h.is_
  have hb0 : Below w.heap.size w (w.alloc (.cells #[.int .i64 kind, .int .u32 code, .int .u32 m.session, .int .u32 number, .int .i64 flags, .slice A data.length c] 60)) := (Below.refl _ _).alloc (Nat.le_refl _) _
  have hA1 := hH.below hb0
  have hU1 := Blk.new w 60 #[.int .i64 kind, .int .u32 code, .int .u32 m.session, .int .u32 number, .int .i64 flags, .slice A data.length c]
  have hua : w.heap.size ≠ b := by have := (hH.lo b hH.fb).2; omega
  have huF : ∀ x, F x → x ≠ w.heap.size := fun x hx e => by have := (hH.lo x hx).2; omega
  obtain ⟨u0, Hu0⟩ : ∃ e, Hid (e = w.heap.size) := ⟨_, Lib.hid rfl⟩
  clear h
  generalize data.length = n at *
  rcases hst with (⟨hs, g1⟩ | ⟨hs, g1⟩ | ⟨hs, g1, g2⟩ | ⟨hs, rfl, g1⟩ | ⟨hs, rfl, g1, g2⟩ | ⟨hs, rfl, g1, g2, g3⟩ | ⟨hs, rfl, g1⟩ | ⟨hs, rfl, g1, g2⟩) | hs
  case' inl.inr.inr.inl => cases g9 : decide (m.number < number)
  all_goals
    have hc := hA1.blk.cell
    unfold rhCells at hc
    rw [hs] at hc
    unfold unitVal
    simp only
    go_enter Tryz.func52, Tryz.ntmps52
    go_upto_region 1 with fail
    rw [← Hu0.out] at hU1 hua huF ⊢
    generalize w.alloc (.cells _ 60) = W1 at *
    have huc := hU1.cell
    go_wp2_with fail
    go_big_quiet (fail)
    have hA2 := hA1.below (belowN (Below.refl _ W1) nq)
    have hU2 := hU1.drewN nq
    have hb2 := belowN hb0 nq
    generalize W1.drewN nq = W2 at *
    clear hc huc hA1 hU1 hb0
    have hc := hA2.blk.cell
    have huc := hU2.cell
    unfold rhCells at hc
    rw [hs] at hc
    go_wp2_with fail
    go_big_quiet (fail)
    have hA3 := hA2.below (belowN (Below.refl _ W2) nq)
    have hU3 := hU2.drewN nq
    have hb3 := belowN hb2 nq
    generalize W2.drewN nq = W3 at *
    clear hc huc hA2 hU2 hb2
    have hc := hA3.blk.cell
    have huc := hU3.cell
    unfold rhCells at hc
    rw [hs] at hc
    go_wp2_with fail
    go_big_quiet (fail)
    have hA4 := hA3.below (belowN (Below.refl _ W3) nq)
    have hU4 := hU3.drewN nq
    have hb4 := belowN hb3 nq
    generalize W3.drewN nq = W4 at *
    clear hc huc hA3 hU3 hb3
    have hc := hA4.blk.cell
    have huc := hU4.cell
    unfold rhCells at hc
    rw [hs] at hc
    go_wp2_with fail
    go_big_quiet (fail)
    go_wp2_with fail
    go_ret
    exact ⟨rfl, hsame _ (belowN hb4 _)⟩
theorem rhS5 {W : World} {lg vv val : Value} {u0 : Nat} {x0 x1 x2 x3 x4 : Value} {data : List UInt8} (hb : Blk W b 96 (rhCells m lg vv val)) (hu : Blk W u0 60 #[x0, x1, x2, x3, x4, .slice A data.length c]) (hr : Reads W Br 1 A data.length (u8c data)) :
    W.cell? ⟨b, 0, none⟩ = some (.int .u32 m.p.code) ∧ W.cell? ⟨b, 1, none⟩ = some (.int .i64 m.p.out) ∧ W.cell? ⟨b, 2, none⟩ = some (.int .i64 m.p.inn) ∧ W.cell? ⟨b, 3, none⟩ = some (.int .i64 m.p.watch) ∧ W.cell? ⟨b, 4, none⟩ = some (.int .u32 m.p.count) ∧
      W.cell? ⟨u0, 5, none⟩ = some (.slice A data.length c) ∧ (convert 22 9 (.slice A data.length c)).run Tryz.prog W = .ok (.string ⟨data.toArray⟩) W :=
  ⟨(hb.cell 0).trans rfl, (hb.cell 1).trans rfl, (hb.cell 2).trans rfl, (hb.cell 3).trans rfl, (hb.cell 4).trans rfl, (hu.cell 5).trans rfl, conv_reads hr⟩
theorem rhUnit_offer (code session number flags : Int) (data : List UInt8) (h : RTakeAt B b m F ⟨17, code, session, number, flags, data⟩ A c Br w) (hs : m.state = 1) (hss : decide (session ≤ m.session) = false) :
    Calls Tryz.prog 52 #[.pointer (some ⟨b, 0, none⟩), unitVal ⟨17, code, session, number, flags, data⟩ (.slice A data.length c)] w fun e w' => e = .returned (.int .i64 (if data = m.p.sign then 0 else 91)) ∧ RHTo B w b (if data = m.p.sign then (({ m with session := session, state := 2 } : HostM).alive) else m) F w' := by
  have hI := h.is_
  have hsame := fun w' => RHTo.ofBelow (w' := w') h.is_
  obtain ⟨Al, cl, vv, val, hH⟩ := h.is_
  have hb0 : Below w.heap.size w (w.alloc (.cells #[.int .i64 17, .int .u32 code, .int .u32 session, .int .u32 number, .int .i64 flags, .slice A data.length c] 60)) := (Below.refl _ _).alloc (Nat.le_refl _) _
  have hA1 := hH.below hb0
  have hU1 := Blk.new w 60 #[.int .i64 17, .int .u32 code, .int .u32 session, .int .u32 number, .int .i64 flags, .slice A data.length c]
  have hua : w.heap.size ≠ b := by have := (hH.lo b hH.fb).2; omega
  have huF : ∀ x, F x → x ≠ w.heap.size := fun x hx e => by have := (hH.lo x hx).2; omega
  obtain ⟨u0, Hu0⟩ : ∃ e, Hid (e = w.heap.size) := ⟨_, Lib.hid rfl⟩
  have hfr := h.good.fr
  have hrd := h.rd
  have hrb := h.rb
  simp only at hrd
  have hsg := fun W => r9sign_any m.p W h.good.inv.pok h.good.inv.plaw
  unfold parVal at hsg
  obtain ⟨sg, Hsg⟩ : ∃ x, Hid (x = m.p.sign) := ⟨_, Lib.hid rfl⟩
  rw [← Hsg.out] at hsg ⊢
  obtain ⟨q1, Hq1⟩ : ∃ x : Int, Hid (x = if data = sg then 0 else 91) := ⟨_, Lib.hid rfl⟩
  obtain ⟨q2, Hq2⟩ : ∃ x : HostM, Hid (x = if data = sg then (({ m with session := session, state := 2 } : HostM).alive) else m) := ⟨_, Lib.hid rfl⟩
  rw [← Hq1.out, ← Hq2.out]
  clear h
  have hc := hA1.blk.cell
  unfold rhCells at hc
  rw [hs] at hc
  unfold unitVal
  simp only
  go_enter Tryz.func52, Tryz.ntmps52
  go_upto_region 1 with fail
  rw [← Hu0.out] at hU1 hua huF ⊢
  generalize w.alloc (.cells _ 60) = W1 at *
  have huc := hU1.cell
  go_wp2_with fail
  go_big_quiet (fail)
  have hA2 := hA1.below (belowN (Below.refl _ W1) nq)
  have hU2 := hU1.drewN nq
  have hb2 := belowN hb0 nq
  generalize W1.drewN nq = W2 at *
  clear hc huc hA1 hU1 hb0
  have hc := hA2.blk.cell
  have huc := hU2.cell
  unfold rhCells at hc
  rw [hs] at hc
  have hr2 := hrd.below (hb2.mono hrb)
  have hul2 := hU2.lt
  have hs2 := hb2.size
  replace hA2 := hA2.drew
  replace hU2 := hU2.drew
  replace hb2 := hb2.drew
  replace hr2 := hr2.drew
  have hbH := hA2.blk
  have hB2 : Br ≤ W2.drew.heap.size := by show Br ≤ W2.heap.size; omega
  go_wp2_with fail
  go_region_held (fun w' => w'.cell? ⟨b, 0, none⟩ = some (.int .u32 m.p.code) ∧ w'.cell? ⟨b, 1, none⟩ = some (.int .i64 m.p.out) ∧ w'.cell? ⟨b, 2, none⟩ = some (.int .i64 m.p.inn) ∧ w'.cell? ⟨b, 3, none⟩ = some (.int .i64 m.p.watch) ∧ w'.cell? ⟨b, 4, none⟩ = some (.int .u32 m.p.count) ∧ w'.cell? ⟨u0, 5, none⟩ = some (.slice A data.length c) ∧ (convert 22 9 (.slice A data.length c)).run Tryz.prog w' = .ok (.string ⟨data.toArray⟩) w') (exact rhS5 hbH hU2 hr2) (first
    | (go_at_call 47; refine (hsg _).mono ?_; rintro e W3 ⟨v3, rfl, hown3, hb3⟩; obtain ⟨A3, c3, hv3⟩ := own_slice hown3; subst hv3; have hcv := conv_reads (c := c3) (Reads.of_own hown3); replace hA2 := hA2.below hb3; clear hbH; have hbH := hA2.blk; replace hU2 := hU2.below hb3 hU2.lt; replace hr2 := hr2.below (hb3.mono hB2); replace hb2 := hb2.trans (hb3.mono hb2.size)))
  have hc3 := hbH.cell
  have hf3 := hbH.frozen
  have huc := hU2.cell
  unfold rhCells at hc3
  by_cases hds : data = sg
  · have gds : (data == sg) = true := by simpa using hds
    have e1 : q1 = 0 := by rw [Hq1.out, if_pos hds]
    have e2 : q2 = (({ m with session := session, state := 2 } : HostM).alive) := by rw [Hq2.out, if_pos hds]
    subst e1
    subst e2
    clear hds Hq1 Hq2
    rw [gds, Bool.not_true]
    have hA3 : RHAt B ((W3.setCell ⟨b, 16, none⟩ (.int .u32 session)).setCell ⟨b, 15, none⟩ (.int .i64 2)) b { m with session := session, state := 2 } F Al cl vv val :=
      hA2.upd (((Keep.refl (fun x => x = b) W3).setCell (p := ⟨b, 16, none⟩) (fun _ => rfl) _).setCell (p := ⟨b, 15, none⟩) (fun _ => rfl) _) (by simp [World.setCell]) (by simpa [rhCells] using (hbH.set_ 16 (.int .u32 session)).set_ 15 (.int .i64 2)) rfl rfl rfl
    have hk3 : Keep F w ((W3.setCell ⟨b, 16, none⟩ (.int .u32 session)).setCell ⟨b, 15, none⟩ (.int .i64 2)) := ((Keep.of_below hb2).setCell (p := ⟨b, 16, none⟩) (fun _ => hH.fb) _).setCell (p := ⟨b, 15, none⟩) (fun _ => hH.fb) _
    have t3 := hH.toIs hA3 (fun x hx => .inl hx) hk3
    go_wp2_with fail
    clear hc hc3 hf3 huc
    refine (rhOn_any B b { m with session := session, state := 2 } _ _ t3.is_ hfr).mono ?_
    rintro e W4 ⟨rfl, t4⟩
    go_wp2_with fail
    go_ret
    exact ⟨rfl, RHTo.trans hI t3 t4⟩
  · have gds : (data == sg) = false := by simpa using hds
    have e1 : q1 = 91 := by rw [Hq1.out, if_neg hds]
    have e2 : q2 = m := by rw [Hq2.out, if_neg hds]
    subst e1
    subst e2
    clear hds Hq1 Hq2
    rw [gds, Bool.not_false]
    go_wp2_with fail
    go_ret
    exact ⟨rfl, hsame _ hb2⟩
theorem rhUnit_any (u : UnitM) (h : RTakeAt B b m F u A c Br w) :
    Calls Tryz.prog 52 #[.pointer (some ⟨b, 0, none⟩), unitVal u (.slice A u.data.length c)] w fun e w' => e = .returned (.int .i64 (m.take u).2) ∧ RHTo B w b (m.take u).1 F w' := by
  obtain ⟨kind, code, session, number, flags, data⟩ := u
  have hst := h.good.inv.state
  by_cases s1 : m.state = 1
  · by_cases k17 : kind = 17
    · by_cases hss : session ≤ m.session
      · have e : m.take ⟨kind, code, session, number, flags, data⟩ = (m, 130) := by unfold HostM.take; rw [if_pos s1, if_pos (.inr hss)]
        rw [e]
        exact rhUnit_idle kind code session number flags data h s1 (.inr ⟨k17, by simpa using hss⟩)
      · subst k17
        have e : m.take ⟨17, code, session, number, flags, data⟩ = (if data = m.p.sign then (({ m with session := session, state := 2 } : HostM).alive) else m, if data = m.p.sign then 0 else 91) := by
          have hn : ¬ ((17 : Int) ≠ 17 ∨ session ≤ m.session) := by simp; omega
          unfold HostM.take
          rw [if_pos s1, if_neg hn]
          by_cases hd : data = m.p.sign
          · rw [if_neg (by simpa using hd), if_pos hd, if_pos hd]
          · rw [if_pos (by simpa using hd), if_neg hd, if_neg hd]
        rw [e]
        exact rhUnit_offer code session number flags data h s1 (by simpa using hss)
    · have e : m.take ⟨kind, code, session, number, flags, data⟩ = (m, 130) := by unfold HostM.take; rw [if_pos s1, if_pos (.inl k17)]
      rw [e]
      exact rhUnit_idle kind code session number flags data h s1 (.inl (by simpa using k17))
  by_cases hss : session = m.session
  · subst hss
    by_cases s5 : m.state = 5
    · have e : m.take ⟨kind, code, m.session, number, flags, data⟩ = (m, 130) := by unfold HostM.take; rw [if_neg s1, if_pos (.inr s5)]
      rw [e]
      exact rhUnit_stale kind code number flags data h (.inr s5)
    have s5' : ¬ (m.session ≠ m.session ∨ m.state = 5) := by simp [s5]
    by_cases c1 : m.state = 2 ∧ kind = 18
    · obtain ⟨hs, rfl⟩ := c1
      have e : m.take ⟨18, code, m.session, number, flags, data⟩ = (({ m with state := 3 } : HostM).alive, 0) := by unfold HostM.take; rw [if_neg s1, if_neg s5', if_pos ⟨hs, rfl⟩]
      rw [e]
      exact rhUnit_agreed code number flags data h hs
    by_cases c2 : m.state = 3 ∧ kind = 19
    · obtain ⟨hs, rfl⟩ := c2
      have e : m.take ⟨19, code, m.session, number, flags, data⟩ = ((({ m with state := 4 } : HostM).run true).alive, 0) := by unfold HostM.take; rw [if_neg s1, if_neg s5', if_neg c1, if_pos ⟨hs, rfl⟩]
      rw [e]
      exact rhUnit_started code number flags data h hs
    by_cases c3 : m.state = 4 ∧ kind = 20 ∧ m.number < number ∧ number < m.p.count ∧ (data.length : Int) = m.p.inn
    · obtain ⟨hs, rfl, h1, h2, h3⟩ := c3
      have e : m.take ⟨20, code, m.session, number, flags, data⟩ = ({ ({ m with number := number } : HostM).alive with valve := ((({ m with number := number } : HostM).alive.valve.hold (decide (8 ≤ flags))).take data) }, 0) := by
        unfold HostM.take; rw [if_neg s1, if_neg s5', if_neg c1, if_neg c2, if_pos ⟨hs, rfl, h1, h2, h3⟩]
      rw [e]
      exact rhUnit_data code number flags data h hs h1 h2 h3
    by_cases c4 : m.state = 4 ∧ kind = 21 ∧ m.number < number ∧ number = m.p.count
    · obtain ⟨hs, rfl, h1, h2⟩ := c4
      have e : m.take ⟨21, code, m.session, number, flags, data⟩ = ({ ((({ m with number := number } : HostM).alive.trip 80).run false) with state := 5 }, 0) := by
        unfold HostM.take; rw [if_neg s1, if_neg s5', if_neg c1, if_neg c2, if_neg c3, if_pos ⟨hs, rfl, h1, h2⟩]
      rw [e]
      exact rhUnit_last code number flags data h hs h1 h2
    · have e : m.take ⟨kind, code, m.session, number, flags, data⟩ = (m, 130) := by unfold HostM.take; rw [if_neg s1, if_neg s5', if_neg c1, if_neg c2, if_neg c3, if_neg c4]
      rw [e]
      exact rhUnit_stale kind code number flags data h (.inl (stale_of hst s1 s5 c1 c2 c3 c4))
  · have e : m.take ⟨kind, code, session, number, flags, data⟩ = (m, 130) := by unfold HostM.take; rw [if_neg s1, if_pos (.inl hss)]
    rw [e]
    exact rhUnit_other kind code session number flags data h (by simpa using s1) (by simpa using hss)
end
end Go.Proofs.YtfoldlbnkfnenaaGreat
/- The reference's host: Receive. -/
namespace Go.Proofs.YtfoldlbnkfnenaaGreat
open Go.RowKit
set_option maxHeartbeats 10000000
set_option maxRecDepth 100000
/-- Behind a call that left alone what it did not make, and then a call on it. -/
theorem RHTo.afterBelow {B : Nat} {w w1 w2 : World} {b : Nat} {m m2 : HostM} {F : Nat → Prop} (h0 : RHIs B w b m F) (hb : Below w.heap.size w w1) (t : RHTo B w1 b m2 F w2) : RHTo B w b m2 F w2 := by
  obtain ⟨_, _, _, _, h0⟩ := h0
  obtain ⟨A, c, vv, val, h⟩ := t.is_
  have s1 := hb.size
  have s2 := t.keep.size
  exact ⟨⟨A, c, vv, val, h.mono (fun x hx => hx.elim .inl (fun h => .inr ⟨by omega, h.2⟩)) (grow_fb h0.lo h0.Ble (by omega))⟩, (Keep.of_below hb).andThen t.keep (fun x _ hx => hx)⟩
section
variable {B b : Nat} {m : HostM} {F : Nat → Prop} {A : Option Addr} {c Br : Nat} {w : World}
theorem rhReceive_any (n : Nat) (l : List UInt8) (h0 : RHIs B w b m F) (hg : m.Good) (hlen : m.log.length < 1073741700) (hr : Reads w Br 1 A n (u8c l)) (hB : Br ≤ w.heap.size) (hc : n ≤ c) :
    Calls Tryz.prog 23 #[.pointer (some ⟨b, 0, none⟩), .slice A n c] w fun e w' => e = .returned (.int .i64 (m.receive l).2) ∧ RHTo B w b (m.receive l).1 F w' := by
  have hI := h0
  have hrl := read_log m l
  obtain ⟨q, Hq⟩ : ∃ q, Hid (q = m.receive l) := ⟨_, Lib.hid rfl⟩
  rw [← Hq.out]
  have hread : m.read l = if (decodeM l).2 ≠ 0 then (m, (decodeM l).2) else if !isDev (decodeM l).1.kind then (m, 43) else if (decodeM l).1.code ≠ m.p.code then (m, 44) else m.take (decodeM l).1 := rfl
  have Hq2 : Hid (q = if (m.read l).2 = 0 then m.read l else ({ (m.read l).1 with log := noteM (m.read l).1.log (m.read l).2 (m.read l).1.session (m.read l).1.number }, (m.read l).2)) := Lib.hid Hq.out
  rw [hread] at Hq2 hrl
  clear hread Hq
  have hok := decode_ok l
  have hlw := fun h => (decode_lawful l h).1
  have hdec := r4decode_any A n c Br l w hr hB hc
  generalize decodeM l = d at *
  clear hr
  obtain ⟨⟨kind, code, session, number, flags, data⟩, er⟩ := d
  simp only at *
  have hlo : ∀ x, F x → B ≤ x ∧ x < w.heap.size := by obtain ⟨_, _, _, _, h⟩ := h0; exact h.lo
  go_enter Tryz.func23, Tryz.ntmps23
  go_wp2_with fail
  refine hdec.mono ?_
  rintro e w1 ⟨v, rfl, hown, hb1⟩
  obtain ⟨Av, cv, rfl⟩ := own_slice hown
  unfold unitVal
  simp only
  have hbW := hb1.alloc hb1.size (.cells #[.int .i64 kind, .int .u32 code, .int .u32 session, .int .u32 number, .int .i64 flags, .slice Av data.length cv] 60)
  have hs1 := hb1.size
  have hU1 := Blk.new w1 60 #[.int .i64 kind, .int .u32 code, .int .u32 session, .int .u32 number, .int .i64 flags, .slice Av data.length cv]
  have hr1 := (Reads.of_own hown).alloc (Nat.le_refl _) (.cells #[.int .i64 kind, .int .u32 code, .int .u32 session, .int .u32 number, .int .i64 flags, .slice Av data.length cv] 60)
  have haf : ∀ ad, Av = some ad → ¬ F ad.block := fun ad e hx => by
    subst e
    have := (hown.lt ad.block rfl).1
    have := (hlo ad.block hx).2
    omega
  have hz1 : w1.heap.size ≤ (w1.alloc (.cells #[.int .i64 kind, .int .u32 code, .int .u32 session, .int .u32 number, .int .i64 flags, .slice Av data.length cv] 60)).heap.size := by simp
  obtain ⟨u0, Hu0⟩ : ∃ e, Hid (e = w1.heap.size) := ⟨_, Lib.hid rfl⟩
  clear hdec hown hb1
  go_upto_region 2 with fail
  rw [← Hu0.out] at hU1 ⊢
  generalize w1.alloc (.cells _ 60) = W2 at *
  have huc := hU1.cell
  have hdev := fun W => r4device_any kind W
  by_cases he : er = 0
  · subst he
    have hl0 := hlw rfl
    have hd8 := UnitM.lawful_len hl0
    simp only at hd8
    clear hlw hl0
    simp only [ne_eq, not_true_eq_false, if_false] at Hq2 hrl
    cases hdv : isDev kind with
    | false =>
      rw [hdv] at hdev
      have e1 : q = ({ m with log := noteM m.log 43 m.session m.number }, 43) := by rw [Hq2.out, hdv]; rfl
      subst e1
      clear Hq2 hrl
      go_wp2_with (go_at_call 51; refine (hdev _).mono ?_; rintro e w3 ⟨rfl, hw3⟩; rw [hw3]; clear hw3)
      go_big_quiet (fail)
      have hbq := belowN hbW nq
      generalize W2.drewN nq = W3 at *
      clear huc hU1 hr1 hbW
      have tQ := RHTo.ofBelow hI hbq
      obtain ⟨AN, cN, vvN, valN, hN⟩ := tQ.is_
      replace hN := hN.drew
      have hkN := tQ.keep.drew
      have hbN := hN.blk
      have hlN := hN.logIs
      go_wp2_with fail
      go_region_held3 (fun w' => w'.cell? ⟨b, 16, none⟩ = some (.int .u32 m.session) ∧ w'.cell? ⟨b, 17, none⟩ = some (.int .u32 m.number)) (exact ⟨(rhS hbN).1, (rhS hbN).2⟩) (first
        | (go_at_call 53; refine (refNote_any b 5 _ _ m.log _ 43 m.session m.number _ hlN (by omega)).mono ?_; rintro e WN ⟨rfl, ⟨vN, hl2⟩, hk2⟩; obtain ⟨A2, c2, h2⟩ := hN.onLog hl2 (fun x hx => hx.elim (fun hx => .inl (hN.fl x hx)) .inr) hk2; clear hbN; have hbN := h2.blk))
      go_wp2_with fail
      go_ret
      have tN : RHTo B _ b _ _ WN := hN.toIs h2 (fun x hx => hx) (hk2.mono (fun x _ hx => hx.elim (fun hx => hN.fl x hx) (fun hx => hx ▸ hN.fb)))
      exact ⟨rfl, RHTo.trans hI ⟨⟨AN, cN, vvN, valN, hN⟩, hkN⟩ tN⟩
    | true =>
      rw [hdv] at hdev
      simp only [hdv, Bool.not_true, Bool.false_eq_true, if_false] at Hq2 hrl
      obtain ⟨A0, c0, vv0, val0, hH⟩ := h0
      have hA2 := hH.below hbW
      have hc := hA2.blk.cell
      unfold rhCells at hc
      by_cases hco : code = m.p.code
      · have gco : (code != m.p.code) = false := by simpa using hco
        have Hq5 : Hid (q = if (m.take ⟨kind, code, session, number, flags, data⟩).2 = 0 then m.take ⟨kind, code, session, number, flags, data⟩ else ({ (m.take ⟨kind, code, session, number, flags, data⟩).1 with log := noteM (m.take ⟨kind, code, session, number, flags, data⟩).1.log (m.take ⟨kind, code, session, number, flags, data⟩).2 (m.take ⟨kind, code, session, number, flags, data⟩).1.session (m.take ⟨kind, code, session, number, flags, data⟩).1.number }, (m.take ⟨kind, code, session, number, flags, data⟩).2)) := Lib.hid (by rw [Hq2.out, if_neg (not_not_intro hco)])
        have hlt : (m.take ⟨kind, code, session, number, flags, data⟩).1.log.length ≤ m.log.length + 1 := by rw [if_neg (not_not_intro hco)] at hrl; exact hrl
        have hun : ∀ W, RTakeAt B b m F ⟨kind, code, session, number, flags, data⟩ Av cv w1.heap.size W → _ := fun W h => rhUnit_any ⟨kind, code, session, number, flags, data⟩ h
        unfold unitVal at hun
        simp only at hun
        clear hco Hq2 hrl
        generalize m.take ⟨kind, code, session, number, flags, data⟩ = t at *
        obtain ⟨m2, rc⟩ := t
        simp only at *
        go_wp2_with (go_at_call 51; refine (hdev _).mono ?_; rintro e w3 ⟨rfl, hw3⟩; rw [hw3]; clear hw3)
        go_big_quiet (fail)
        have hA3 := hA2.below (belowN (Below.refl _ W2) nq)
        have hU3 := hU1.drewN nq
        have hb3 := belowN hbW nq
        have hr3 := hr1.drewN nq
        have hz3 : w1.heap.size ≤ (W2.drewN nq).heap.size := hz1
        generalize W2.drewN nq = W3 at *
        clear hc huc hA2 hU1 hbW hr1 hz1
        have hc := hA3.blk.cell
        unfold rhCells at hc
        have huc := hU3.cell
        have hun3 := hun W3 ⟨⟨A0, c0, vv0, val0, hA3⟩, hg, ⟨hok.2.2, hok.1, hok.2.1⟩, hr3, hz3, hd8, by omega, haf⟩
        clear hun
        go_wp2_with fail
        refine hun3.mono ?_
        rintro e W4 ⟨rfl, t4⟩
        have tQ := RHTo.afterBelow hI hb3 t4
        clear hc huc hU3 hA3 hun3 t4
        by_cases h0 : rc = 0
        · have e1 : q = (m2, rc) := by rw [Hq5.out, if_pos h0]
          subst e1
          subst h0
          go_wp2_with fail
          go_ret
          exact ⟨rfl, tQ⟩
        · have e1 : q = ({ m2 with log := noteM m2.log rc m2.session m2.number }, rc) := by rw [Hq5.out, if_neg h0]
          subst e1
          have g0 : (rc != 0) = true := by simpa using h0
          clear Hq5
          go_wp2_with fail
          obtain ⟨AN, cN, vvN, valN, hN⟩ := tQ.is_
          replace hN := hN.drew
          have hkN := tQ.keep.drew
          have hbN := hN.blk
          have hlN := hN.logIs
          go_wp2_with fail
          go_region_held3 (fun w' => w'.cell? ⟨b, 16, none⟩ = some (.int .u32 m2.session) ∧ w'.cell? ⟨b, 17, none⟩ = some (.int .u32 m2.number)) (exact ⟨(rhS hbN).1, (rhS hbN).2⟩) (first
            | (go_at_call 53; refine (refNote_any b 5 _ _ m2.log _ rc m2.session m2.number _ hlN (by omega)).mono ?_; rintro e WN ⟨rfl, ⟨vN, hl2⟩, hk2⟩; obtain ⟨A2, c2, h2⟩ := hN.onLog hl2 (fun x hx => hx.elim (fun hx => .inl (hN.fl x hx)) .inr) hk2; clear hbN; have hbN := h2.blk))
          go_wp2_with fail
          go_ret
          have tN : RHTo B _ b _ _ WN := hN.toIs h2 (fun x hx => hx) (hk2.mono (fun x _ hx => hx.elim (fun hx => hN.fl x hx) (fun hx => hx ▸ hN.fb)))
          exact ⟨rfl, RHTo.trans hI ⟨⟨AN, cN, vvN, valN, hN⟩, hkN⟩ tN⟩
      · have gco : (code != m.p.code) = true := by simpa using hco
        have e1 : q = ({ m with log := noteM m.log 44 m.session m.number }, 44) := by rw [Hq2.out, if_pos hco]; rfl
        subst e1
        clear hco Hq2 hrl
        go_wp2_with (go_at_call 51; refine (hdev _).mono ?_; rintro e w3 ⟨rfl, hw3⟩; rw [hw3]; clear hw3)
        go_big_quiet (fail)
        have hbq := belowN hbW nq
        generalize W2.drewN nq = W3 at *
        clear hc huc hU1 hr1 hbW hA2
        have tQ := RHTo.ofBelow hI hbq
        obtain ⟨AN, cN, vvN, valN, hN⟩ := tQ.is_
        replace hN := hN.drew
        have hkN := tQ.keep.drew
        have hbN := hN.blk
        have hlN := hN.logIs
        go_wp2_with fail
        go_region_held3 (fun w' => w'.cell? ⟨b, 16, none⟩ = some (.int .u32 m.session) ∧ w'.cell? ⟨b, 17, none⟩ = some (.int .u32 m.number)) (exact ⟨(rhS hbN).1, (rhS hbN).2⟩) (first
          | (go_at_call 53; refine (refNote_any b 5 _ _ m.log _ 44 m.session m.number _ hlN (by omega)).mono ?_; rintro e WN ⟨rfl, ⟨vN, hl2⟩, hk2⟩; obtain ⟨A2, c2, h2⟩ := hN.onLog hl2 (fun x hx => hx.elim (fun hx => .inl (hN.fl x hx)) .inr) hk2; clear hbN; have hbN := h2.blk))
        go_wp2_with fail
        go_ret
        have tN : RHTo B _ b _ _ WN := hN.toIs h2 (fun x hx => hx) (hk2.mono (fun x _ hx => hx.elim (fun hx => hN.fl x hx) (fun hx => hx ▸ hN.fb)))
        exact ⟨rfl, RHTo.trans hI ⟨⟨AN, cN, vvN, valN, hN⟩, hkN⟩ tN⟩
  · have e1 : q = ({ m with log := noteM m.log er m.session m.number }, er) := by rw [Hq2.out, if_pos he]; simp only; rw [if_neg he]
    subst e1
    have g0 : (er == 0) = false := by simpa using he
    have g1 : (er != 0) = true := by simpa using he
    clear Hq2 hrl hlw
    go_wp2_with fail
    go_big_quiet (fail)
    have hbq := belowN hbW nq
    generalize W2.drewN nq = W3 at *
    clear huc hU1 hr1 hbW
    have tQ := RHTo.ofBelow hI hbq
    obtain ⟨AN, cN, vvN, valN, hN⟩ := tQ.is_
    replace hN := hN.drew
    have hkN := tQ.keep.drew
    have hbN := hN.blk
    have hlN := hN.logIs
    go_wp2_with fail
    go_region_held3 (fun w' => w'.cell? ⟨b, 16, none⟩ = some (.int .u32 m.session) ∧ w'.cell? ⟨b, 17, none⟩ = some (.int .u32 m.number)) (exact ⟨(rhS hbN).1, (rhS hbN).2⟩) (first
      | (go_at_call 53; refine (refNote_any b 5 _ _ m.log _ er m.session m.number _ hlN (by omega)).mono ?_; rintro e WN ⟨rfl, ⟨vN, hl2⟩, hk2⟩; obtain ⟨A2, c2, h2⟩ := hN.onLog hl2 (fun x hx => hx.elim (fun hx => .inl (hN.fl x hx)) .inr) hk2; clear hbN; have hbN := h2.blk))
    go_wp2_with fail
    go_ret
    have tN : RHTo B _ b _ _ WN := hN.toIs h2 (fun x hx => hx) (hk2.mono (fun x _ hx => hx.elim (fun hx => hN.fl x hx) (fun hx => hx ▸ hN.fb)))
    exact ⟨rfl, RHTo.trans hI ⟨⟨AN, cN, vvN, valN, hN⟩, hkN⟩ tN⟩
end
end Go.Proofs.YtfoldlbnkfnenaaGreat
/- The reference's host: See, Reset, New. -/
namespace Go.Proofs.YtfoldlbnkfnenaaGreat
open Go.RowKit
set_option maxHeartbeats 10000000
set_option maxRecDepth 100000

theorem rhS6 {w : World} {b : Nat} {m : HostM} {lg vv val : Value} (h : Blk w b 96 (rhCells m lg vv val)) :
    w.cell? ⟨b, 15, none⟩ = some (.int .i64 m.state) ∧ w.cell? ⟨b, 16, none⟩ = some (.int .u32 m.session) ∧ w.cell? ⟨b, 17, none⟩ = some (.int .u32 m.number) ∧ w.cell? ⟨b, 18, none⟩ = some (.int .u32 m.sent) ∧ w.cell? ⟨b, 7, none⟩ = some (.int .i64 m.since) ∧ w.cell? ⟨b, 12, none⟩ = some (.int .i64 m.valve.latched) :=
  ⟨(h.cell 15).trans rfl, (h.cell 16).trans rfl, (h.cell 17).trans rfl, (h.cell 18).trans rfl, (h.cell 7).trans rfl, (h.cell 12).trans rfl⟩
theorem output_length {V : ValveM} {N : Nat} (h : ∀ l, V.value = some l → l.length = N) : (V.output N).length = N := by
  unfold ValveM.output
  split
  · rename_i hon
    cases hv : V.value with
    | none => simp [ValveM.on, hv] at hon
    | some l => simpa using h l hv
  · simp
theorem rhSee_any (B b : Nat) (m : HostM) (F : Nat → Prop) (w : World) (h0 : RHIs B w b m F) (hi : m.Inv) :
    Calls Tryz.prog 67 #[.pointer (some ⟨b, 0, none⟩)] w fun e w' => ∃ x, e = .returned (endVal m.see x) ∧ w'.ownsRow w.heap.size 5 1 x m.see.out.length (u8c m.see.out) ∧ Below w.heap.size w w' := by
  obtain ⟨A, c, vv, val, hH⟩ := h0
  have hlaw := hi.plaw
  simp [ParM.lawful] at hlaw
  obtain ⟨N, hN⟩ : ∃ N : Nat, m.p.inn = (N : Int) := ⟨m.p.inn.toNat, by omega⟩
  have hN8 : N ≤ 8 := by omega
  have hvv : ∀ l, m.valve.value = some l → l.length = N := fun l hl => by have := hi.vval l hl; omega
  have Hlen := Lib.hid (output_length hvv)
  obtain ⟨sm, Hsm⟩ : ∃ s, Hid (s = m.see) := ⟨_, Lib.hid rfl⟩
  rw [← Hsm.out]
  have HN := Lib.hid hN
  clear hlaw hN
  have h1 := hH.below ((Below.refl w.heap.size w).alloc (Nat.le_refl _) (.cells #[.int .i64 0, .int .u32 0, .int .u32 0, .int .u32 0, .int .i64 0, .int .i64 0, .bool false, .bool false, .slice none 0 0] 53))
  have hE := Blk.new w 53 #[.int .i64 0, .int .u32 0, .int .u32 0, .int .u32 0, .int .i64 0, .int .i64 0, .bool false, .bool false, .slice none 0 0]
  have hbE : Below w.heap.size w (w.alloc (.cells #[.int .i64 0, .int .u32 0, .int .u32 0, .int .u32 0, .int .i64 0, .int .i64 0, .bool false, .bool false, .slice none 0 0] 53)) := (Below.refl _ _).alloc (Nat.le_refl _) _
  have hea : w.heap.size ≠ b := by have := (hH.lo b hH.fb).2; omega
  have hvb := h1.valveBlk
  rw [HN.out] at hvb
  go_enter Tryz.func67, Tryz.ntmps67
  go_wp2_with fail
  obtain ⟨e0, He0⟩ : ∃ e, Hid (e = w.heap.size) := ⟨_, Lib.hid rfl⟩
  rw [← He0.out] at hE hea ⊢
  generalize w.alloc (.cells _ 53) = W0 at *
  refine (rvOutput_any b 8 _ _ _ m.valve vv W0 N hvb rfl h1.vval hN8 hvv).mono ?_
  rintro e W1 ⟨x, rfl, hown, hb1⟩
  have h2 := h1.below hb1
  have hE2 := hE.below hb1 hE.lt
  have hbE2 := hbE.trans (hb1.mono hbE.size)
  have hs0 := hbE.size
  obtain ⟨Ax, cx, rfl⟩ := own_slice hown
  have hb := h2.blk.drew
  have hv := h2.drew.valveBlk
  have hel0 := hE.lt
  clear h1 hE hbE hvb
  have huc := hE2.cell
  have huf := hE2.frozen
  have hc := h2.blk.cell
  unfold rhCells at hc
  go_wp2_with fail
  go_region_held3 (fun w' => w'.cell? ⟨b, 15, none⟩ = some (.int .i64 m.state) ∧ w'.cell? ⟨b, 16, none⟩ = some (.int .u32 m.session) ∧ w'.cell? ⟨b, 17, none⟩ = some (.int .u32 m.number) ∧ w'.cell? ⟨b, 18, none⟩ = some (.int .u32 m.sent) ∧ w'.cell? ⟨b, 7, none⟩ = some (.int .i64 m.since) ∧ w'.cell? ⟨b, 12, none⟩ = some (.int .i64 m.valve.latched)) (with_reducible (first | exact rhS6 hb | exact rhS6 (hb.far9 hea) | exact rhS6 (h2.blk.far9 hea).drew)) (first
    | (go_at_call 87; refine (rvRequest_any b 8 _ _ _ m.p.inn m.valve vv _ hv rfl).mono ?_; rintro e W2 ⟨rfl, rfl⟩))
  have hel := hE2.lt
  have hlt := hown.lt
  have hfar : ∀ y, (Value.slice Ax N cx).ownBlock = some y → ¬ y = e0 := fun y hy e => by have := (hlt y hy).1; omega
  have hE3 := (hE2.store9 (a0 := (.int .i64 m.state)) (a1 := (.int .u32 m.session)) (a2 := (.int .u32 m.number)) (a3 := (.int .u32 m.sent)) (a4 := (.int .i64 m.since)) (a5 := (.int .i64 m.valve.latched)) (a6 := (.bool m.valve.request)) (a7 := (.bool m.valve.on)) (a8 := (.slice Ax N cx))).drew
  have hb3 : Below w.heap.size w (((((((((W1.setCell ⟨e0, 0, none⟩ (.int .i64 m.state)).setCell ⟨e0, 1, none⟩ (.int .u32 m.session)).setCell ⟨e0, 2, none⟩ (.int .u32 m.number)).setCell ⟨e0, 3, none⟩ (.int .u32 m.sent)).setCell ⟨e0, 4, none⟩ (.int .i64 m.since)).setCell ⟨e0, 5, none⟩ (.int .i64 m.valve.latched)).setCell ⟨e0, 6, none⟩ (.bool m.valve.request)).setCell ⟨e0, 7, none⟩ (.bool m.valve.on)).setCell ⟨e0, 8, none⟩ (.slice Ax N cx)).drew := (below9 hbE2 (by have := He0.out; omega)).drew
  have hown3 := ownsRow_keep (S := fun x => x = e0) hown ((((((((((Keep.refl (fun x => x = e0) W1).setCell (p := ⟨e0, 0, none⟩) (fun _ => rfl) (.int .i64 m.state)).setCell (p := ⟨e0, 1, none⟩) (fun _ => rfl) (.int .u32 m.session)).setCell (p := ⟨e0, 2, none⟩) (fun _ => rfl) (.int .u32 m.number)).setCell (p := ⟨e0, 3, none⟩) (fun _ => rfl) (.int .u32 m.sent)).setCell (p := ⟨e0, 4, none⟩) (fun _ => rfl) (.int .i64 m.since)).setCell (p := ⟨e0, 5, none⟩) (fun _ => rfl) (.int .i64 m.valve.latched)).setCell (p := ⟨e0, 6, none⟩) (fun _ => rfl) (.bool m.valve.request)).setCell (p := ⟨e0, 7, none⟩) (fun _ => rfl) (.bool m.valve.on)).setCell (p := ⟨e0, 8, none⟩) (fun _ => rfl) (.slice Ax N cx)).drew hfar
  generalize (((((((((W1.setCell ⟨e0, 0, none⟩ (.int .i64 m.state)).setCell ⟨e0, 1, none⟩ (.int .u32 m.session)).setCell ⟨e0, 2, none⟩ (.int .u32 m.number)).setCell ⟨e0, 3, none⟩ (.int .u32 m.sent)).setCell ⟨e0, 4, none⟩ (.int .i64 m.since)).setCell ⟨e0, 5, none⟩ (.int .i64 m.valve.latched)).setCell ⟨e0, 6, none⟩ (.bool m.valve.request)).setCell ⟨e0, 7, none⟩ (.bool m.valve.on)).setCell ⟨e0, 8, none⟩ (.slice Ax N cx)).drew = W3 at *
  clear huc huf hc
  have huc := hE3.cell
  go_wp2_with fail
  have e1 : sm = m.see := Hsm.out
  have e2 : m.see.out = m.valve.output (N : Int) := by unfold HostM.see; rw [HN.out]
  subst e1
  refine bodyPost_ret (v := endVal m.see (.slice Ax N cx)) (by simp [results, Tryz.results67, go_sem, endVal, HostM.see, huc]) rfl ⟨_, rfl, ?_, hb3⟩
  rw [e2, Hlen.out]
  exact own_base hown3 hs0
theorem rhReset_any (B b : Nat) (p : ParM) (L : List Rec) (A : Option Addr) (c : Nat) (F : Nat → Prop) (x6 x7 x8 x9 x10 x11 x12 x13 x14 x15 x16 x17 x18 x19 x20 x21 x22 : Value) (w : World) (hp : p.lawful = true)
    (hb : Blk w b 96 #[.int .u32 p.code, .int .i64 p.out, .int .i64 p.inn, .int .i64 p.watch, .int .u32 p.count, .slice A L.length c, x6, x7, x8, x9, x10, x11, x12, x13, x14, x15, x16, x17, x18, x19, x20, x21, x22])
    (hl : w.ownsRow 0 145 4 (.slice A L.length c) L.length (recsCells L)) (hF : F b) (hFl : ∀ x, (Value.slice A L.length c).ownBlock = some x → F x) (hlo : ∀ x, F x → B ≤ x ∧ x < w.heap.size) :
    Calls Tryz.prog 40 #[.pointer (some ⟨b, 0, none⟩)] w fun e w' => e = .returned (.tuple #[]) ∧ RHIs B w' b { p := p, log := L, value := List.replicate p.out.toNat 0 } (grow F w w') ∧ Keep (fun x => x = b) w w' := by
  have hlaw := hp
  simp [ParM.lawful] at hlaw
  obtain ⟨N, hN⟩ : ∃ N : Nat, p.out = (N : Int) := ⟨p.out.toNat, by omega⟩
  have hN8 : N ≤ 8 := by omega
  have HN := Lib.hid hN
  have hmk := run_make_row' (P := Tryz.prog) 22 5 (.int .u8 0) 1 Tryz.underlying22 byte_info rfl .i64 .i64 N (by omega) (by omega)
  rw [hN] at hb
  clear hlaw hN
  have hc := hb.cell
  have hf := hb.frozen
  have hlt := hb.lt
  have hne := fun x (hx : (Value.slice A L.length c).ownBlock = some x) (e : x = b) => own_ne hl hb (by decide) (e ▸ hx)
  have hb1 := (((((((((((((((hb.set_ 6 (.int .i64 p.watch)).set_ 7 (.int .i64 0)).set_ 8 (.int .i64 p.inn)).set_ 9 (.bool false)).set_ 10 (.bool false)).set_ 11 (.bool false)).set_ 12 (.int .i64 0)).set_ 13 (.slice none 0 0)).set_ 14 (.bool false)).set_ 15 (.int .i64 1)).set_ 16 (.int .u32 0)).set_ 17 (.int .u32 0)).set_ 18 (.int .u32 0)).set_ 19 (.bool false)).set_ 20 (.int .i64 0))
  have hk1 := ((((((((((((((((Keep.refl (fun x => x = b) w).setCell (p := ⟨b, 6, none⟩) (fun _ => rfl) (.int .i64 p.watch)).setCell (p := ⟨b, 7, none⟩) (fun _ => rfl) (.int .i64 0)).setCell (p := ⟨b, 8, none⟩) (fun _ => rfl) (.int .i64 p.inn)).setCell (p := ⟨b, 9, none⟩) (fun _ => rfl) (.bool false)).setCell (p := ⟨b, 10, none⟩) (fun _ => rfl) (.bool false)).setCell (p := ⟨b, 11, none⟩) (fun _ => rfl) (.bool false)).setCell (p := ⟨b, 12, none⟩) (fun _ => rfl) (.int .i64 0)).setCell (p := ⟨b, 13, none⟩) (fun _ => rfl) (.slice none 0 0)).setCell (p := ⟨b, 14, none⟩) (fun _ => rfl) (.bool false)).setCell (p := ⟨b, 15, none⟩) (fun _ => rfl) (.int .i64 1)).setCell (p := ⟨b, 16, none⟩) (fun _ => rfl) (.int .u32 0)).setCell (p := ⟨b, 17, none⟩) (fun _ => rfl) (.int .u32 0)).setCell (p := ⟨b, 18, none⟩) (fun _ => rfl) (.int .u32 0)).setCell (p := ⟨b, 19, none⟩) (fun _ => rfl) (.bool false)).setCell (p := ⟨b, 20, none⟩) (fun _ => rfl) (.int .i64 0))
  have hz1 : (((((((((((((((w.setCell ⟨b, 6, none⟩ (.int .i64 p.watch)).setCell ⟨b, 7, none⟩ (.int .i64 0)).setCell ⟨b, 8, none⟩ (.int .i64 p.inn)).setCell ⟨b, 9, none⟩ (.bool false)).setCell ⟨b, 10, none⟩ (.bool false)).setCell ⟨b, 11, none⟩ (.bool false)).setCell ⟨b, 12, none⟩ (.int .i64 0)).setCell ⟨b, 13, none⟩ (.slice none 0 0)).setCell ⟨b, 14, none⟩ (.bool false)).setCell ⟨b, 15, none⟩ (.int .i64 1)).setCell ⟨b, 16, none⟩ (.int .u32 0)).setCell ⟨b, 17, none⟩ (.int .u32 0)).setCell ⟨b, 18, none⟩ (.int .u32 0)).setCell ⟨b, 19, none⟩ (.bool false)).setCell ⟨b, 20, none⟩ (.int .i64 0)).heap.size = w.heap.size := by simp [World.setCell]
  go_enter Tryz.func40, Tryz.ntmps40
  go_upto_region 8 with fail
  generalize (((((((((((((((w.setCell ⟨b, 6, none⟩ (.int .i64 p.watch)).setCell ⟨b, 7, none⟩ (.int .i64 0)).setCell ⟨b, 8, none⟩ (.int .i64 p.inn)).setCell ⟨b, 9, none⟩ (.bool false)).setCell ⟨b, 10, none⟩ (.bool false)).setCell ⟨b, 11, none⟩ (.bool false)).setCell ⟨b, 12, none⟩ (.int .i64 0)).setCell ⟨b, 13, none⟩ (.slice none 0 0)).setCell ⟨b, 14, none⟩ (.bool false)).setCell ⟨b, 15, none⟩ (.int .i64 1)).setCell ⟨b, 16, none⟩ (.int .u32 0)).setCell ⟨b, 17, none⟩ (.int .u32 0)).setCell ⟨b, 18, none⟩ (.int .u32 0)).setCell ⟨b, 19, none⟩ (.bool false)).setCell ⟨b, 20, none⟩ (.int .i64 0)) = W1 at *
  simp only [List.setIfInBounds_toArray, List.set_cons_zero, List.set_cons_succ] at hb1
  clear hc hf hb
  have hb2 := hb1.alloc (.cells (madeCells #[.int .u8 0] N) 5)
  have hcA := hb2.cell
  have hfA := hb2.frozen
  have hc := hb1.cell
  have hfW := hb1.frozen
  go_wp2_with fail
  go_end0
  clear hb2 hcA hfA hc hfW
  have hb3 := (hb1.set_ 21 (.slice (some ⟨w.heap.size, 0, none⟩) N N)).set_ 22 (.bool false)
  simp only [List.setIfInBounds_toArray, List.set_cons_zero, List.set_cons_succ] at hb3
  have hk3 := (hk1.setCell (p := ⟨b, 21, none⟩) (fun _ => rfl) (.slice (some ⟨w.heap.size, 0, none⟩) N N)).setCell (p := ⟨b, 22, none⟩) (fun _ => rfl) (.bool false)
  have hz3 : ((W1.setCell ⟨b, 21, none⟩ (.slice (some ⟨w.heap.size, 0, none⟩) N N)).setCell ⟨b, 22, none⟩ (.bool false)).heap.size = w.heap.size := by simp [World.setCell, hz1]
  generalize (W1.setCell ⟨b, 21, none⟩ (.slice (some ⟨w.heap.size, 0, none⟩) N N)).setCell ⟨b, 22, none⟩ (.bool false) = W3 at *
  have hb4 := hb3.alloc (.cells (madeCells #[.int .u8 0] N) 5)
  have hk4 := hk3.alloc (.cells (madeCells #[.int .u8 0] N) 5)
  have hmade := own_made W3 N (by omega)
  have hz4 : w.heap.size < (W3.alloc (.cells (madeCells #[.int .u8 0] N) 5)).heap.size := by simp [hz3]
  rw [hz3] at hmade
  generalize W3.alloc (.cells (madeCells #[.int .u8 0] N) 5) = W4 at *
  have eN : p.out.toNat = N := by rw [HN.out]; rfl
  have eL : (List.replicate N (0 : UInt8)).length = N := by simp
  refine ⟨rfl, ⟨A, c, .slice none 0 0, .slice (some ⟨w.heap.size, 0, none⟩) N N, ?_⟩, hk4⟩
  exact {
    blk := by rw [← HN.out] at hb4; exact hb4
    log := ownsRow_keep hl hk4 hne
    vval := rfl
    value := by show W4.ownsRow 0 5 1 _ (List.replicate p.out.toNat (0 : UInt8)).length _; rw [eN, eL]; exact own_base hmade (Nat.zero_le _)
    fb := .inl hF
    fl := fun x hx => .inl (hFl x hx)
    fv := fun x hx => by simp [Value.ownBlock] at hx
    fx := fun x hx => by simp [Value.ownBlock] at hx; subst hx; exact .inr ⟨Nat.le_refl _, hz4⟩
    lo := grow_fb hlo (by have := hlo b hF; omega) hk4.size }
theorem rhNew_bad (p : ParM) (w : World) (ho : p.Ok) (hp : p.lawful = false) : Calls Tryz.prog 14 #[parVal p] w fun e w' => e = .returned (.tuple #[.pointer none, .int .i64 90]) ∧ Below w.heap.size w w' := by
  have hchk := fun W => r9lawful_any p W ho
  rw [hp] at hchk
  unfold parVal at *
  go_enter Tryz.func14, Tryz.ntmps14
  go_wp2_with fail
  refine (hchk _).mono ?_
  rintro e w1 ⟨rfl, hb1⟩
  go_wp2_with fail
  refine bodyPost_ret (v := .tuple #[.pointer none, .int .i64 90]) (by simp [results, Tryz.results14, go_sem]) rfl ⟨rfl, ?_⟩
  exact ((Below.refl _ _).alloc (Nat.le_refl _) _).trans (hb1.mono (by simp))
theorem rhNew_any (p : ParM) (w : World) (ho : p.Ok) (hp : p.lawful = true) : Calls Tryz.prog 14 #[parVal p] w fun e w' => ∃ b F, e = .returned (.tuple #[.pointer (some ⟨b, 0, none⟩), .int .i64 0]) ∧ RHIs w.heap.size w' b (HostM.new p) F ∧ Below w.heap.size w w' := by
  have hchk := fun W => r9lawful_any p W ho
  rw [hp] at hchk
  unfold parVal at *
  go_enter Tryz.func14, Tryz.ntmps14
  go_wp2_with fail
  refine (hchk _).mono ?_
  rintro e w1 ⟨rfl, hb1⟩
  have hb1' : Below w.heap.size w w1 := ((Below.refl _ w).alloc (Nat.le_refl _) _).trans (hb1.mono (by simp))
  have hP := (Blk.new w 30 #[.int .u32 p.code, .int .i64 p.out, .int .i64 p.inn, .int .i64 p.watch, .int .u32 p.count]).below hb1 (by simp)
  have hc := hP.cell
  have hf := hP.frozen
  clear hb1 hchk
  go_upto_region 4 with fail
  have hs1 := hb1'.size
  have hbe := hb1'.alloc hs1 (.cells #[.int .u32 p.code, .int .i64 p.out, .int .i64 p.inn, .int .i64 p.watch, .int .u32 p.count, .slice none 0 0, .int .i64 0, .int .i64 0, .int .i64 0, .bool false, .bool false, .bool false, .int .i64 0, .slice none 0 0, .bool false, .int .i64 0, .int .u32 0, .int .u32 0, .int .u32 0, .bool false, .int .i64 0, .slice none 0 0, .bool false] 96)
  go_wp2_with fail
  refine (rhReset_any w.heap.size w1.heap.size p [] none 0 (fun x => x = w1.heap.size) _ _ _ _ _ _ _ _ _ _ _ _ _ _ _ _ _ _ hp (Blk.new w1 _ _) (World.ownsRow_nil _ _ _ _) rfl (fun x hx => by simp [Value.ownBlock] at hx) (fun x hx => by subst hx; simp; omega)).mono ?_
  rintro e W3 ⟨rfl, hI, hk⟩
  go_wp2_with fail
  refine bodyPost_ret (v := .tuple #[.pointer (some ⟨w1.heap.size, 0, none⟩), .int .i64 0]) (by simp [results, Tryz.results14, go_sem]) rfl ⟨_, _, rfl, hI, ?_⟩
  exact hbe.trans (hk.below hbe.size (fun b hb => by rw [hb]; exact hs1))
end Go.Proofs.YtfoldlbnkfnenaaGreat
