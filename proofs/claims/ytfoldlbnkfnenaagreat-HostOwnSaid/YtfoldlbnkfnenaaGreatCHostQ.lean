/- A host's Send where nothing is lost and no number is the last: its own blocks stay the same ones. -/
import Derived.Test.YtfoldlbnkfnenaaGreatCTwoB
import Derived.Deep.RegionHeld3
namespace Go.Proofs.YtfoldlbnkfnenaaGreat
open Go.RowKit
set_option maxHeartbeats 10000000
set_option maxRecDepth 100000

theorem hostLostQ_any (B a : Nat) (m : HostM) (F : Nat → Prop) (w : World) (hH : HostIs B w a m F) (hq : m.state = 1 ∨ m.waits = false) :
    Calls Tryz.prog 42 #[.pointer (some ⟨a, 0, none⟩)] w fun e w' => e = .returned (.tuple #[]) ∧ w' = w := by
  obtain ⟨d, v, g, val, FV, FL, hH⟩ := hH
  have hc := hH.blk.cell
  unfold hostCells at hc
  by_cases h1 : m.state = 1
  · rw [h1] at hc
    go_enter Tryz.func42, Tryz.ntmps42
    go_wp2_with fail
    first | go_end0 | refine bodyPost_ret (results_none rfl _ _ _) rfl ?_
    exact ⟨rfl, rfl⟩
  · have g1 : (m.state == 1) = false := by simpa using h1
    have hw : m.waits = false := hq.resolve_left h1
    rw [hw] at hc
    go_enter Tryz.func42, Tryz.ntmps42
    go_wp2_with fail
    first | go_end0 | refine bodyPost_ret (results_none rfl _ _ _) rfl ?_
    exact ⟨rfl, rfl⟩
theorem hostComposeQ_any (B a : Nat) (m : HostM) (F : Nat → Prop) (w : World) (hH : HostIs B w a m F) (hi : m.Inv) (hlen : m.log.length < 1073741822) (h5 : m.state ≠ 5) (hqq : m.state ≤ 3 ∨ ¬ m.sent + 1 = m.p.count) :
    Calls Tryz.prog 43 #[.pointer (some ⟨a, 0, none⟩)] w fun e w' => ∃ x, e = .returned x ∧ w'.ownsRow w.heap.size 5 1 x m.compose.2.length (u8c m.compose.2) ∧ HostIs B w' a m.compose.1 F ∧ Keep F w w' := by
  obtain ⟨d, v, g, val, FV, FL, hH⟩ := hH
  have hb0 := hH.blk
  have hc := hb0.cell
  unfold hostCells at hc
  have hsig := fun w => paramSignature_any m.p w hi.pok hi.plaw
  unfold parVal at hsig
  obtain ⟨cm, Hcm⟩ : ∃ c, Hid (c = m.compose) := ⟨_, Lib.hid rfl⟩
  rw [← Hcm.out]
  go_enter Tryz.func43, Tryz.ntmps43
  go_wp2_with fail
  refine (hsig _).mono ?_
  rintro e w1 ⟨rfl, hb1⟩
  have h1 := hH.keepS (S := fun _ => False) (Keep.of_below hb1) (fun _ _ h => h)
  have hB1 := h1.blk
  clear hc hsig
  have hc := hB1.cell
  unfold hostCells at hc
  go_wp2_with fail
  go_region_held3 (fun w' => w'.cell? ⟨a, 0, none⟩ = some (.int .u32 m.p.code) ∧ w'.cell? ⟨a, 9, none⟩ = some (.int .u32 m.session)) (first | exact hostS2 hB1.drew | exact hostS2 (hB1.alloc _).drew) (fail)
  have hU := (Blk.new w1 60 #[.int .i64 0, .int .u32 m.p.code, .int .u32 m.session, .int .u32 0, .int .i64 0, .slice none 0 0]).drew
  have h2 := (h1.keepS (S := fun _ => False) ((Keep.refl _ w1).alloc (.cells #[.int .i64 0, .int .u32 m.p.code, .int .u32 m.session, .int .u32 0, .int .i64 0, .slice none 0 0] 60)) (fun _ _ h => h)).drew
  have hb2 : Below w.heap.size w (w1.alloc (.cells #[.int .i64 0, .int .u32 m.p.code, .int .u32 m.session, .int .u32 0, .int .i64 0, .slice none 0 0] 60)).drew := (hb1.alloc hb1.size _).drew
  have hs1 := hb1.size
  obtain ⟨u, Hu⟩ : ∃ u, Hid (u = w1.heap.size) := ⟨_, Lib.hid rfl⟩
  rw [← Hu.out] at hU hs1 ⊢
  have hul := hU.lt
  generalize (w1.alloc (.cells #[.int .i64 0, .int .u32 m.p.code, .int .u32 m.session, .int .u32 0, .int .i64 0, .slice none 0 0] 60)).drew = W2 at *
  clear hc hB1 h1 hb1
  have hB2 := h2.blk
  have hc := hB2.cell
  unfold hostCells at hc
  have huc := hU.cell
  have huf := hU.frozen
  have huF : ∀ x, F x → x ≠ u := fun x hx e => by have := (hH.fb x hx).2; omega
  have hsl : m.p.sign.length = 4 := by simp [ParM.sign, wordOf]
  by_cases s1 : m.state = 1
  · have hcm : cm = (m, (UnitM.mk 1 m.p.code 0 0 0 m.p.sign).encode) := by rw [Hcm.out]; unfold HostM.compose; rw [if_pos s1]; rfl
    subst hcm
    clear Hcm
    rw [s1] at hc
    go_wp2_with fail
    refine (paramBytes_any _ W2).mono ?_
    rintro e W3 ⟨v3, rfl, hown3, hb3⟩
    obtain ⟨A3, c3, rfl⟩ := own_slice hown3
    have hU3 := hU.below hb3 hul
    have hb3' := hb2.trans (hb3.mono hb2.size)
    have ho := own_off hown3 hul
    have hr3 := (((Reads.of_own hown3).far (p := ⟨u, 0, none⟩) ho (.int .i64 1)).far (p := ⟨u, 2, none⟩) ho (.int .u32 0)).far (p := ⟨u, 5, none⟩) ho (.slice A3 4 c3)
    have hb4 : Below w.heap.size w (((W3.setCell ⟨u, 0, none⟩ (.int .i64 1)).setCell ⟨u, 2, none⟩ (.int .u32 0)).setCell ⟨u, 5, none⟩ (.slice A3 4 c3)) := ((hb3'.setCell (p := ⟨u, 0, none⟩) hs1 _).setCell (p := ⟨u, 2, none⟩) hs1 _).setCell (p := ⟨u, 5, none⟩) hs1 _
    have hz4 : (((W3.setCell ⟨u, 0, none⟩ (.int .i64 1)).setCell ⟨u, 2, none⟩ (.int .u32 0)).setCell ⟨u, 5, none⟩ (.slice A3 4 c3)).heap.size = W3.heap.size := by simp [World.setCell]
    clear huc huf hc
    have huc := hU3.cell
    have huf := hU3.frozen
    go_wp2_with fail
    refine (unitEncode_at 1 m.p.code 0 0 0 m.p.sign A3 4 c3 W3.heap.size _ hsl hi.pok.code (by omega) (by omega) hr3 (by rw [hz4]; exact Nat.le_refl _)).mono ?_
    rintro e W5 ⟨v5, er, rfl, hown5, hb5⟩
    have hb5' := hb4.trans (hb5.mono hb4.size)
    go_wp2_with fail
    go_ret
    exact ⟨_, rfl, own_base hown5 hb4.size, ⟨_, _, _, _, _, _, hH.keepS (S := fun _ => False) (Keep.of_below hb5') (fun _ _ h => h)⟩, Keep.of_below hb5'⟩
  have g1 : (m.state == 1) = false := by simpa using s1
  by_cases s2 : m.state = 2
  · have hcm : cm = (m, (UnitM.mk 2 m.p.code m.session 0 0 m.p.sign).encode) := by rw [Hcm.out]; unfold HostM.compose; rw [if_neg s1, if_pos s2]; rfl
    subst hcm
    clear Hcm
    rw [s2] at hc
    go_wp2_with fail
    refine (paramBytes_any _ W2).mono ?_
    rintro e W3 ⟨v3, rfl, hown3, hb3⟩
    obtain ⟨A3, c3, rfl⟩ := own_slice hown3
    have hU3 := hU.below hb3 hul
    have hb3' := hb2.trans (hb3.mono hb2.size)
    have ho := own_off hown3 hul
    have hr3 := ((Reads.of_own hown3).far (p := ⟨u, 0, none⟩) ho (.int .i64 2)).far (p := ⟨u, 5, none⟩) ho (.slice A3 4 c3)
    have hb4 : Below w.heap.size w ((W3.setCell ⟨u, 0, none⟩ (.int .i64 2)).setCell ⟨u, 5, none⟩ (.slice A3 4 c3)) := (hb3'.setCell (p := ⟨u, 0, none⟩) hs1 _).setCell (p := ⟨u, 5, none⟩) hs1 _
    have hz4 : ((W3.setCell ⟨u, 0, none⟩ (.int .i64 2)).setCell ⟨u, 5, none⟩ (.slice A3 4 c3)).heap.size = W3.heap.size := by simp [World.setCell]
    clear huc huf hc
    have huc := hU3.cell
    have huf := hU3.frozen
    go_wp2_with fail
    refine (unitEncode_at 2 m.p.code m.session 0 0 m.p.sign A3 4 c3 W3.heap.size _ hsl hi.pok.code hi.session (by omega) hr3 (by rw [hz4]; exact Nat.le_refl _)).mono ?_
    rintro e W5 ⟨v5, er, rfl, hown5, hb5⟩
    have hb5' := hb4.trans (hb5.mono hb4.size)
    go_wp2_with fail
    go_ret
    exact ⟨_, rfl, own_base hown5 hb4.size, ⟨_, _, _, _, _, _, hH.keepS (S := fun _ => False) (Keep.of_below hb5') (fun _ _ h => h)⟩, Keep.of_below hb5'⟩
  have g2 : (m.state == 2) = false := by simpa using s2
  by_cases s3 : m.state = 3
  · have hcm : cm = (m, (UnitM.mk 3 m.p.code m.session 0 0 []).encode) := by rw [Hcm.out]; unfold HostM.compose; rw [if_neg s1, if_neg s2, if_pos s3]; rfl
    subst hcm
    clear Hcm
    rw [s3] at hc
    have hb4 : Below w.heap.size w (W2.setCell ⟨u, 0, none⟩ (.int .i64 3)) := hb2.setCell (p := ⟨u, 0, none⟩) hs1 _
    have hz4 : (W2.setCell ⟨u, 0, none⟩ (.int .i64 3)).heap.size = W2.heap.size := by simp [World.setCell]
    go_wp2_with fail
    refine (unitEncode_at 3 m.p.code m.session 0 0 [] none 0 0 0 _ rfl hi.pok.code hi.session (by omega) Reads.none_ (Nat.zero_le _)).mono ?_
    rintro e W5 ⟨v5, er, rfl, hown5, hb5⟩
    have hb5' := hb4.trans (hb5.mono hb4.size)
    go_wp2_with fail
    go_ret
    exact ⟨_, rfl, own_base hown5 hb4.size, ⟨_, _, _, _, _, _, hH.keepS (S := fun _ => False) (Keep.of_below hb5') (fun _ _ h => h)⟩, Keep.of_below hb5'⟩
  have g3 : (m.state == 3) = false := by simpa using s3
  have s4 : m.state = 4 := by have := hi.state; omega
  have hrun := hi.run s4
  have hcnt := hi.pok.count
  have hsent := hi.sent
  have hw1 : IntKind.u32.wrap (m.sent + 1) = m.sent + 1 := IntWalk.u32_in _ (by omega)
  have hA3 : HostAt B (W2.setCell ⟨a, 11, none⟩ (.int .u32 (m.sent + 1))) a { m with sent := m.sent + 1 } F d v g val FV FL :=
    h2.upd ((Keep.refl (fun x => x = a) W2).setCell (p := ⟨a, 11, none⟩) (fun _ => rfl) _) (by simp [World.setCell]) (by simpa [hostCells] using hB2.set_ 11 (.int .u32 (m.sent + 1))) rfl rfl rfl rfl rfl
  have hua : u ≠ a := fun e => huF a hH.fa e.symm
  have hU3 : Blk ((W2.setCell ⟨a, 11, none⟩ (.int .u32 (m.sent + 1))).setCell ⟨u, 3, none⟩ (.int .u32 (m.sent + 1))) u 60 #[.int .i64 0, .int .u32 m.p.code, .int .u32 m.session, .int .u32 (m.sent + 1), .int .i64 0, .slice none 0 0] := by
    simpa using (hU.far (p := ⟨a, 11, none⟩) hua (.int .u32 (m.sent + 1))).set_ 3 (.int .u32 (m.sent + 1))
  have hA4 := hA3.keepS ((Keep.refl (fun x => x = u) _).setCell (p := ⟨u, 3, none⟩) (fun _ => rfl) (.int .u32 (m.sent + 1))) huF
  have hk4 : Keep F w ((W2.setCell ⟨a, 11, none⟩ (.int .u32 (m.sent + 1))).setCell ⟨u, 3, none⟩ (.int .u32 (m.sent + 1))) := ((Keep.of_below hb2).setCell (p := ⟨a, 11, none⟩) (fun _ => hH.fa) _).setCell (p := ⟨u, 3, none⟩) (fun hx => by simp at hx; omega) _
  have hcf := hB2.frozen
  go_wp2_with fail
  have hul4 := hU3.lt
  have hb4 : B ≤ w.heap.size := hH.Ble
  generalize (W2.setCell ⟨a, 11, none⟩ (.int .u32 (m.sent + 1))).setCell ⟨u, 3, none⟩ (.int .u32 (m.sent + 1)) = W4 at *
  clear huc huf hc hcf h2 hB2 hA3 hU hul hb2
  have hB4 := hA4.blk
  have hc := hB4.cell
  unfold hostCells at hc
  simp only at hc
  by_cases hq : m.sent + 1 = m.p.count
  · exact absurd hq (hqq.resolve_left (by omega))
  · have hqb : (m.sent + 1 == m.p.count) = false := by simpa using hq
    go_big_quiet (fail)
    have hcm : cm = ({ m with sent := m.sent + 1 }, (UnitM.mk 4 m.p.code m.session (m.sent + 1) (flagsM m.valve m.hold) m.value).encode) := by
      rw [Hcm.out]
      unfold HostM.compose
      rw [if_neg s1, if_neg s2, if_neg s3]
      simp only
      rw [if_neg hq]
      rfl
    have hA5 := hA4.keepS (S := fun _ => False) ((Keep.refl _ W4).drewN nq) (fun _ _ h => h)
    have hU5 := hU3.drewN nq
    have hk5 := hk4.drewN nq
    have hul5 : u < (W4.drewN nq).heap.size := hul4
    generalize W4.drewN nq = W5 at *
    clear hc hB4 hA4 hU3 hk4 hul4
    have hin : m.p.inn = ((m.p.inn.toNat : Nat) : Int) := by
      have hl := hi.plaw
      simp [ParM.lawful] at hl
      omega
    have hin8 : m.p.inn.toNat ≤ 8 := by
      have hl := hi.plaw
      simp [ParM.lawful] at hl
      omega
    have hvv : ∀ b, m.valve.value = some b → b.length = m.p.inn.toNat := fun b hb => by have := hi.vval b hb; omega
    have hout8 : m.value.length ≤ 8 := by
      have hl := hi.plaw
      have := hi.value
      simp [ParM.lawful] at hl
      omega
    have Hin := Lib.hid hin
    have Hin8 := Lib.hid hin8
    have Hvv := Lib.hid hvv
    have Hout8 := Lib.hid hout8
    have Hcm2 := Lib.hid hcm
    clear hin hin8 hvv hout8 hcm
    have hown5 := hA5.value
    simp only at hown5
    obtain ⟨Av, cv, rfl⟩ := own_slice hown5
    replace hA5 := hA5.drew
    have hB5 := hA5.blk
    replace hU5 := hU5.drew
    replace hk5 := hk5.drew
    have hus : u < W5.drew.heap.size := hul5
    have hlo : ∀ x, F x → x ≠ u := huF
    go_wp2_with fail
    go_region_held3 (fun w' => w'.cell? ⟨a, 14, none⟩ = some (.slice Av m.value.length cv)) (with_reducible (first | exact hostS3 hB5 | exact hostS3 (hB5.farU hua _ _) | exact hostS3 ((hB5.farU hua _ _).farU hua _ _) | exact hostS3 (((hB5.farU hua _ _).farU hua _ _).farU hua _ _))) (first
      | (go_at_call 80; refine (hostFlags_any B a { m with sent := m.sent + 1 } m.p.inn.toNat F _ ⟨d, v, g, _, FV, FL, hA5⟩ Hin.out Hin8.out Hvv.out).mono ?_; rintro e W6 ⟨rfl, hb6⟩; replace hA5 := hA5.keepS (S := fun _ => False) (Keep.of_below hb6) (fun _ _ h => h); replace hB5 := hA5.blk; replace hU5 := hU5.below hb6 hus; have huc := hU5.cell; have huf := hU5.frozen; replace hk5 := hk5.andThen (S' := fun _ => False) (Keep.of_below hb6) (fun _ _ h => h.elim)))
    have hA7 := hA5.keepS ((((Keep.refl (fun x => x = u) W6).setCell (p := ⟨u, 0, none⟩) (fun _ => rfl) (.int .i64 4)).setCell (p := ⟨u, 4, none⟩) (fun _ => rfl) (.int .i64 (flagsM m.valve m.hold))).setCell (p := ⟨u, 5, none⟩) (fun _ => rfl) (.slice Av m.value.length cv)) hlo
    have hU7 : Blk (((W6.setCell ⟨u, 0, none⟩ (.int .i64 4)).setCell ⟨u, 4, none⟩ (.int .i64 (flagsM m.valve m.hold))).setCell ⟨u, 5, none⟩ (.slice Av m.value.length cv)) u 60 #[.int .i64 4, .int .u32 m.p.code, .int .u32 m.session, .int .u32 (m.sent + 1), .int .i64 (flagsM m.valve m.hold), .slice Av m.value.length cv] := by
      simpa using ((hU5.set_ 0 (.int .i64 4)).set_ 4 (.int .i64 (flagsM m.valve m.hold))).set_ 5 (.slice Av m.value.length cv)
    have hs1' : w.heap.size ≤ u := hs1
    have hk7 := ((hk5.setCell (p := ⟨u, 0, none⟩) (fun hx => by simp at hx; omega) (.int .i64 4)).setCell (p := ⟨u, 4, none⟩) (fun hx => by simp at hx; omega) (.int .i64 (flagsM m.valve m.hold))).setCell (p := ⟨u, 5, none⟩) (fun hx => by simp at hx; omega) (.slice Av m.value.length cv)
    generalize ((W6.setCell ⟨u, 0, none⟩ (.int .i64 4)).setCell ⟨u, 4, none⟩ (.int .i64 (flagsM m.valve m.hold))).setCell ⟨u, 5, none⟩ (.slice Av m.value.length cv) = W7 at *
    clear huc huf hA5 hU5 hk5 hB5
    have hown7 := hA7.value
    simp only at hown7
    have huc := hU7.cell
    go_wp2_with fail
    refine (unitEncode_at 4 m.p.code m.session (m.sent + 1) (flagsM m.valve m.hold) m.value Av m.value.length cv W7.heap.size W7 rfl hi.pok.code hi.session (by omega) (Reads.of_own hown7) (Nat.le_refl _)).mono ?_
    rintro e W10 ⟨v10, er, rfl, hown10, hb10⟩
    have h10 := hA7.keepS (S := fun _ => False) (Keep.of_below hb10) (fun _ _ h => h)
    have hk10 : Keep F w W10 := hk7.andThen (S' := fun _ => False) (Keep.of_below hb10) (fun _ _ h => h.elim)
    have hs7 := hk7.size
    go_wp2_with fail
    go_ret
    have e3 := Hcm2.out
    subst e3
    exact ⟨_, rfl, own_base hown10 hs7, ⟨_, _, _, _, _, _, h10⟩, hk10⟩
theorem hostSendQ_any (B a : Nat) (m : HostM) (F : Nat → Prop) (w : World) (hH : HostIs B w a m F) (hi : m.Inv) (hlen : m.log.length < 1073741800) (h5 : m.state ≠ 5) (hq : m.state = 1 ∨ m.waits = false) (hqq : m.state ≤ 3 ∨ ¬ m.sent + 1 = m.p.count) :
    Calls Tryz.prog 19 #[.pointer (some ⟨a, 0, none⟩)] w fun e w' => ∃ x, e = .returned (.tuple #[x, .int .i64 m.send.2.2]) ∧ w'.ownsRow w.heap.size 5 1 x m.send.2.1.length (u8c m.send.2.1) ∧ HostIs B w' a m.send.1 F ∧ Keep F w w' := by
  have h0 := hH
  obtain ⟨d, v, g, val, FV, FL, hH⟩ := hH
  have hc := hH.blk.cell
  unfold hostCells at hc
  have g5 : (m.state == 5) = false := by simpa using h5
  have el : m.lost = m := by unfold HostM.lost; rw [if_pos hq]
  have Hs : Hid (m.send = ({ m.compose.1 with waits := true }, m.compose.2, 0)) := Lib.hid (by unfold HostM.send; rw [if_neg h5, el])
  rw [Hs.out]
  have hcomp := fun w1 F1 h1 => hostComposeQ_any B a m F1 w1 h1 hi (by omega) h5 hqq
  have hlost := hostLostQ_any B a m F w h0 hq
  obtain ⟨cm, hcm⟩ : ∃ c, c = m.compose := ⟨_, rfl⟩
  rw [← hcm] at hcomp ⊢
  clear Hs hcm
  go_enter Tryz.func19, Tryz.ntmps19
  go_wp2_with fail
  refine hlost.mono ?_
  rintro e w1 ⟨rfl, rfl⟩
  go_wp2_with fail
  refine (hcomp _ _ h0).mono ?_
  rintro e w2 ⟨x, rfl, hown, hI, hk3⟩
  obtain ⟨d3, v3, g3, val3, FV3, FL3, h3⟩ := hI
  have ha : a < w1.heap.size := (hH.fb a hH.fa).2
  obtain ⟨A, c, rfl⟩ := own_slice hown
  have hfar : (Value.slice A cm.2.length c).ownBlock ≠ some a := fun e => by have := (hown.lt a e).1; omega
  have hb3 := h3.blk
  clear hc hcomp hlost
  have hc := hb3.cell
  have hf := hb3.frozen
  unfold hostCells at hc
  go_wp2_with fail
  have h4 : HostAt B (w2.setCell ⟨a, 12, none⟩ (.bool true)) a { cm.1 with waits := true } F d3 v3 g3 val3 FV3 FL3 :=
    h3.upd ((Keep.refl (fun x => x = a) w2).setCell (p := ⟨a, 12, none⟩) (fun _ => rfl) _) (by simp [World.setCell]) (by simpa [hostCells] using hb3.set_ 12 (.bool true)) rfl rfl rfl rfl rfl
  refine bodyPost_ret (v := .tuple #[.slice A cm.2.length c, .int .i64 0]) (by simp [results, Tryz.results19, go_sem]) rfl ⟨_, rfl, own_far hown hfar 12 _, ⟨_, _, _, _, _, _, h4⟩, hk3.setCell (p := ⟨a, 12, none⟩) (fun _ => hH.fa) _⟩
theorem two_sendQ {B a b : Nat} {w : World} {m : HostM} {T : Nat → Prop} (h : Two B w a b m T) (hlen : m.log.length < 1073741600) (h5 : m.state ≠ 5) (hq : m.state = 1 ∨ m.waits = false) (hqq : m.state ≤ 3 ∨ ¬ m.sent + 1 = m.p.count) :
    Calls Tryz.prog 19 #[.pointer (some ⟨a, 0, none⟩)] w fun e w' => ∃ x, e = .returned (.tuple #[x, .int .i64 m.send.2.2]) ∧ w'.ownsRow w.heap.size 5 1 x m.send.2.1.length (u8c m.send.2.1) ∧ Half B w' a b m T T ∧ Keep T w w' ∧ Below B w w' := by
  obtain ⟨F1, F2, hP, hT⟩ := h.pair
  refine (hostSendQ_any B a m F1 w hP.host h.good.inv (by omega) h5 hq hqq).mono ?_
  rintro e w' ⟨x, he, hx, hI, hk⟩
  have hs := hk.size
  have hB := hP.host.Ble
  refine ⟨x, he, hx, ⟨⟨F1, F2, ⟨hI, hP.ref.keepS hk (fun x hx h1 => hP.dj x h1 hx), hP.dj⟩, fun x hx => hT x (.inl hx), fun x hx => hT x (.inr hx)⟩, h.good, h.live, fun x hx => by have := h.lt x hx; omega, fun _ h => h⟩, hk.mono (fun x _ hx => hT x (.inl hx)), hk.below hB (fun x hx => (hP.host.lo x hx).1)⟩
end Go.Proofs.YtfoldlbnkfnenaaGreat
