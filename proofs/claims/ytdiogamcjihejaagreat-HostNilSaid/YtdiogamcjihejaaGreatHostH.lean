/- unit.FromDevice; a host is offered a session. -/
import Derived.Test.YtdiogamcjihejaaGreatHostG
namespace Go.Proofs.YtdiogamcjihejaaGreat
open Go.RowKit
set_option maxHeartbeats 10000000
set_option maxRecDepth 100000

theorem unitFromDevice_any (k : Int) (w : World) : Calls Tryz.prog 136 #[.int .i64 k] w fun e w' => e = .returned (.bool (isDev k)) ∧ w' = w := by
  by_cases h1 : 17 ≤ k
  · go_enter Tryz.func136, Tryz.ntmps136
    go_wp2_with fail
    go_ret
    exact ⟨by simp [isDev, h1], rfl⟩
  · go_enter Tryz.func136, Tryz.ntmps136
    go_wp2_with fail
    go_ret
    exact ⟨by simp [isDev]; omega, rfl⟩
theorem hostS6 {w : World} {a d v g e0 : Nat} {m : HostM} {val : Value} {x0 x1 x2 x3 x4 x5 : Value} (h : Blk w a 117 (hostCells m d v g val)) (hu : Blk w e0 60 #[x0, x1, x2, x3, x4, x5]) :
    w.cell? ⟨a, 0, none⟩ = some (.int .u32 m.p.code) ∧ w.cell? ⟨a, 1, none⟩ = some (.int .i64 m.p.out) ∧ w.cell? ⟨a, 2, none⟩ = some (.int .i64 m.p.inn) ∧ w.cell? ⟨a, 3, none⟩ = some (.int .i64 m.p.watch) ∧ w.cell? ⟨a, 4, none⟩ = some (.int .u32 m.p.count) ∧ w.cell? ⟨e0, 5, none⟩ = some x5 :=
  ⟨(h.cell 0).trans rfl, (h.cell 1).trans rfl, (h.cell 2).trans rfl, (h.cell 3).trans rfl, (h.cell 4).trans rfl, (hu.cell 5).trans rfl⟩
theorem hostOffered_any (B a : Nat) (m : HostM) (F : Nat → Prop) (u : UnitM) (A : Option Addr) (c Br : Nat) (w : World) (hH : HostIs B w a m F) (hi : m.Inv) (hs1 : m.state = 1) (ho : u.Ok) (hr : Reads w Br 1 A u.data.length (u8c u.data)) (hB : Br ≤ w.heap.size) (hd : u.data.length ≤ 1000) :
    Calls Tryz.prog 137 #[.pointer (some ⟨a, 0, none⟩), unitVal u (.slice A u.data.length c)] w fun e w' => e = .returned (.int .i64 (m.take u).2) ∧ HostTo B w a (m.take u).1 F w' := by
  have h0 := hH
  obtain ⟨d, v, g, val, FV, FL, hH⟩ := hH
  obtain ⟨kind, code, session, number, flags, data⟩ := u
  simp only at *
  have h1 := hH.keepS (S := fun _ => False) ((Keep.refl _ w).alloc (.cells #[.int .i64 kind, .int .u32 code, .int .u32 session, .int .u32 number, .int .i64 flags, .slice A data.length c] 60)) (fun _ _ h => h)
  have hU := Blk.new w 60 #[.int .i64 kind, .int .u32 code, .int .u32 session, .int .u32 number, .int .i64 flags, .slice A data.length c]
  have hb1 : Below w.heap.size w (w.alloc (.cells #[.int .i64 kind, .int .u32 code, .int .u32 session, .int .u32 number, .int .i64 flags, .slice A data.length c] 60)) := (Below.refl _ _).alloc (Nat.le_refl _) _
  have toSame : ∀ w', Below w.heap.size w w' → HostTo B w a m F w' := fun w' hb => hH.toIs (hH.keepS (S := fun _ => False) (Keep.of_below hb) (fun _ _ h => h)) (fun x hx => .inl hx) (Keep.of_below hb)
  have hc := h1.blk.cell
  unfold hostCells at hc
  unfold unitVal
  simp only
  by_cases hk : kind = 17
  · by_cases hss : session ≤ m.session
    · have e1 : m.take ⟨kind, code, session, number, flags, data⟩ = (m, 130) := by unfold HostM.take; rw [if_pos hs1, if_pos (.inr hss)]
      rw [e1]
      clear e1
      subst hk
      go_enter Tryz.func137, Tryz.ntmps137
      go_wp2_with fail
      go_big_quiet (fail)
      go_wp2_with fail
      go_ret
      exact ⟨rfl, toSame _ (belowN hb1 _)⟩
    · have hnk : ¬ (kind ≠ 17 ∨ session ≤ m.session) := by simp [hk]; omega
      have hmat := fun w hr hB => paramMatch_any m.p A data.length c Br data w hi.pok hi.plaw hr hB hd
      unfold parVal at hmat
      obtain ⟨r, Hr⟩ : ∃ r, Hid (r = m.take ⟨kind, code, session, number, flags, data⟩) := ⟨_, Lib.hid rfl⟩
      rw [← Hr.out]
      have Hr2 : Hid (r = if data ≠ m.p.sign then (m, 91) else (({ m with session := session, state := 2 } : HostM).alive, 0)) := Lib.hid (by rw [Hr.out]; unfold HostM.take; rw [if_pos hs1, if_neg hnk])
      clear Hr hnk
      subst hk
      go_enter Tryz.func137, Tryz.ntmps137
      go_wp2_with fail
      go_big_quiet (fail)
      have hA1 := h1.keepS (S := fun _ => False) ((Keep.refl _ _).drewN nq) (fun _ _ h => h)
      have hU1 := hU.drewN nq
      have hb2 := belowN hb1 nq
      have hea : w.heap.size ≠ a := by have := (hH.fb a hH.fa).2; omega
      obtain ⟨e0, He0⟩ : ∃ e, Hid (e = w.heap.size) := ⟨_, Lib.hid rfl⟩
      rw [← He0.out] at hU1 hea ⊢
      generalize (w.alloc (.cells #[.int .i64 17, .int .u32 code, .int .u32 session, .int .u32 number, .int .i64 flags, .slice A data.length c] 60)).drewN nq = W1 at *
      clear hc h1 hU hb1
      have hr1 := hr.below (hb2.mono hB)
      have hc := hA1.blk.cell
      unfold hostCells at hc
      have huc := hU1.cell
      replace hA1 := hA1.drew
      replace hU1 := hU1.drew
      replace hb2 := hb2.drew
      replace hr1 := hr1.drew
      have hul := hU1.lt
      have hBr : Br ≤ W1.drew.heap.size := by have := hb2.size; omega
      have hbA := hA1.blk
      go_wp2_with fail
      go_region_held3 (fun w' => w'.cell? ⟨a, 0, none⟩ = some (.int .u32 m.p.code) ∧ w'.cell? ⟨a, 1, none⟩ = some (.int .i64 m.p.out) ∧ w'.cell? ⟨a, 2, none⟩ = some (.int .i64 m.p.inn) ∧ w'.cell? ⟨a, 3, none⟩ = some (.int .i64 m.p.watch) ∧ w'.cell? ⟨a, 4, none⟩ = some (.int .u32 m.p.count) ∧ w'.cell? ⟨e0, 5, none⟩ = some (.slice A data.length c)) (with_reducible (first | exact hostS6 hbA hU1)) (first
        | (go_at_call 184; refine (hmat _ hr1 hBr).mono ?_; rintro e W2 ⟨rfl, hbm⟩; replace hA1 := hA1.keepS (S := fun _ => False) (Keep.of_below hbm) (fun _ _ h => h); replace hbA := hA1.blk; replace hU1 := hU1.below hbm hul; replace hb2 := hb2.trans (hbm.mono hb2.size)))
      have hwe : w.heap.size ≤ e0 := by have := He0.out; omega
      have hkF : Keep F w W2 := Keep.of_below hb2
      have huc := hU1.cell
      have hc2 := hbA.cell
      have hf2 := hbA.frozen
      unfold hostCells at hc2
      by_cases hds : data = m.p.sign
      · have e1 : r = (({ m with session := session, state := 2 } : HostM).alive, 0) := by rw [Hr2.out, if_neg (by simpa using hds)]
        have hdec : decide (data = m.p.sign) = true := by simpa using hds
        subst e1
        rw [hdec]
        clear hdec hds Hr2 hr hr1 hmat
        have hA3 : HostAt B ((W2.setCell ⟨a, 9, none⟩ (.int .u32 session)).setCell ⟨a, 8, none⟩ (.int .i64 2)) a { m with session := session, state := 2 } F d v g val FV FL :=
          hA1.upd (((Keep.refl (fun x => x = a) W2).setCell (p := ⟨a, 9, none⟩) (fun _ => rfl) _).setCell (p := ⟨a, 8, none⟩) (fun _ => rfl) _) (by simp [World.setCell]) (by simpa [hostCells] using (hbA.set_ 9 (.int .u32 session)).set_ 8 (.int .i64 2)) rfl rfl rfl rfl rfl
        have hk3 : Keep F w ((W2.setCell ⟨a, 9, none⟩ (.int .u32 session)).setCell ⟨a, 8, none⟩ (.int .i64 2)) := (hkF.setCell (p := ⟨a, 9, none⟩) (fun _ => hH.fa) _).setCell (p := ⟨a, 8, none⟩) (fun _ => hH.fa) _
        have t3 := hH.toIs hA3 (fun x hx => .inl hx) hk3
        go_wp2_with fail
        refine (hostAlive_any B a { m with session := session, state := 2 } _ _ t3.is_).mono ?_
        rintro e W4 ⟨rfl, t4⟩
        go_wp2_with fail
        go_ret
        exact ⟨rfl, HostTo.trans h0 t3 t4⟩
      · have e1 : r = (m, 91) := by rw [Hr2.out, if_pos (by simpa using hds)]
        have hdec : decide (data = m.p.sign) = false := by simpa using hds
        subst e1
        rw [hdec]
        clear hdec hds Hr2 hr hr1 hmat
        go_wp2_with fail
        go_ret
        exact ⟨rfl, toSame _ hb2⟩
  · have e1 : m.take ⟨kind, code, session, number, flags, data⟩ = (m, 130) := by unfold HostM.take; rw [if_pos hs1, if_pos (.inl hk)]
    rw [e1]
    have g1 : (kind != 17) = true := by simpa using hk
    clear e1
    go_enter Tryz.func137, Tryz.ntmps137
    go_wp2_with fail
    go_big_quiet (fail)
    go_wp2_with fail
    go_ret
    exact ⟨rfl, toSame _ (belowN hb1 _)⟩
end Go.Proofs.YtdiogamcjihejaaGreat
