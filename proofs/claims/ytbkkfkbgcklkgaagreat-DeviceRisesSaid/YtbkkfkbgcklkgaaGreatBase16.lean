/- The base of the laws, part 16: contracts and plain lemmas, no statement. -/
import Derived.Test.YtbkkfkbgcklkgaaGreatBase15
/- The reference's device takes a unit: kind 4. -/
namespace Go.Proofs.YtbkkfkbgcklkgaaGreat
open Go.RowKit
set_option maxHeartbeats 10000000
set_option maxRecDepth 100000
theorem rdUnit_4 (B b mb : Nat) (m : DevM) (F : Nat → Prop) (kind code session number flags : Int) (data : List UInt8) (A : Option Addr) (c Br : Nat) (w : World) (hk : kind = 4) (h : RDTake B w b mb m F ⟨kind, code, session, number, flags, data⟩ A Br) :
    Calls Tryz.prog 52 #[.pointer (some ⟨b, 0, none⟩), unitVal ⟨kind, code, session, number, flags, data⟩ (.slice A data.length c)] w fun e w' => RDAns B w b mb F (m.take ⟨kind, code, session, number, flags, data⟩) e w' := by
  subst hk
  have hI0 := h.is_
  have hi := h.inv
  have hlen := h.len
  have hrd := h.rd
  have hrb := h.rb
  have hd8 := h.d8
  have haf := h.af
  have hok := h.ok
  simp only at hrd hd8
  obtain ⟨q, Hq⟩ : ∃ q, Hid (q = m.take ⟨4, code, session, number, flags, data⟩) := ⟨_, Lib.hid rfl⟩
  rw [← Hq.out]
  obtain ⟨⟨κ, Al, cl, vv, val, cb, hH, hF⟩, hlo⟩ := h.is_
  have hb0 : Below w.heap.size w (w.alloc (.cells #[.int .i64 4, .int .u32 code, .int .u32 session, .int .u32 number, .int .i64 flags, .slice A data.length c] 68)) := (Below.refl _ _).alloc (Nat.le_refl _) _
  have hA1 := hH.below hb0
  have hU1 := Blk.new w 68 #[.int .i64 4, .int .u32 code, .int .u32 session, .int .u32 number, .int .i64 flags, .slice A data.length c]
  have hua : w.heap.size ≠ b := by have := (hH.inF hH.kb).2; omega
  have huF : ∀ x, F x → x ≠ w.heap.size := fun x hx e => by have := (hlo x hx).2; omega
  obtain ⟨u0, Hu0⟩ : ∃ e, Hid (e = w.heap.size) := ⟨_, Lib.hid rfl⟩
  have hsg := fun W => r9sign_any m.p W hi.pok hi.plaw
  unfold parVal at hsg
  obtain ⟨sg, Hsg⟩ : ∃ x, Hid (x = m.p.sign) := ⟨_, Lib.hid rfl⟩
  rw [← Hsg.out] at hsg
  clear h
  unfold RDAns
  unfold unitVal
  simp only
  go_enter Tryz.func52, Tryz.ntmps52
  go_upto_region 1 with fail
  rw [← Hu0.out] at hU1 hua huF ⊢
  generalize w.alloc (.cells _ 68) = W1 at *
  have huc := hU1.cell
  have hr1 := hrd.below (hb0.mono hrb)
  have hs1 := hb0.size
  have hA2 := hA1.drew
  have hU2 := hU1.drew
  have hb2 := hb0.drew
  have hr2 := hr1.drew
  have hbH := hA2.blk
  have hB2 : Br ≤ W1.drew.heap.size := by show Br ≤ W1.heap.size; omega
  go_wp2_with fail
  go_region_held (fun w' => w'.cell? ⟨b, 0, none⟩ = some (.int .u32 m.p.code) ∧ w'.cell? ⟨b, 1, none⟩ = some (.int .i64 m.p.out) ∧ w'.cell? ⟨b, 2, none⟩ = some (.int .i64 m.p.inn) ∧ w'.cell? ⟨b, 3, none⟩ = some (.int .i64 m.p.watch) ∧ w'.cell? ⟨b, 4, none⟩ = some (.int .u32 m.p.count) ∧ w'.cell? ⟨u0, 5, none⟩ = some (.slice A data.length c) ∧ (convert 41 9 (.slice A data.length c)).run Tryz.prog w' = .ok (.string ⟨data.toArray⟩) w') (exact rdS5 hbH hU2 hr2) (first
    | (go_at_call 29; refine (hsg _).mono ?_; rintro e W3 ⟨v3, rfl, hown3, hb3⟩; obtain ⟨A3, c3, hv3⟩ := own_slice hown3; subst hv3; have hcv := conv_reads (c := c3) (Reads.of_own hown3); replace hA2 := hA2.below hb3; clear hbH; have hbH := hA2.blk; replace hU2 := hU2.below hb3 hU2.lt; replace hr2 := hr2.below (hb3.mono hB2); replace hb2 := hb2.trans (hb3.mono hb2.size)))
  clear huc hcv hA1 hU1 hr1
  obtain ⟨sgb, Hsgb⟩ : ∃ x, Hid (x = (data == sg)) := ⟨_, Lib.hid rfl⟩
  rw [← Hsgb.out]
  clear hbH
  have hc := hA2.blk.cell
  unfold rdCells at hc
  have huc := hU2.cell
  go_wp2_with fail
  go_big_quiet (fail)
  have hA3 := hA2.below (belowN (Below.refl _ W3) nq)
  have hU3 := hU2.drewN nq
  have hb3 := belowN hb2 nq
  have hr3 := hr2.drewN nq
  generalize W3.drewN nq = W4 at *
  clear hc huc hA2 hU2 hb2 hr2
  have hc := hA3.blk.cell
  unfold rdCells at hc
  have huc := hU3.cell
  obtain ⟨mi, Hmi⟩ : ∃ x, Hid (x = (session == m.session)) := ⟨_, Lib.hid rfl⟩
  rw [← Hmi.out]
  go_upto_region 3 with fail
  go_cut [8] (fun v8 wc => v8 = .bool (mi && (m.state == 4) && decide (m.number < number)) ∧ ∃ n, wc = W4.drewN n)
  case first =>
    cases mi
    · go_big_quiet (fail)
      go_wp2_with fail
      go_meet
      exact ⟨rfl, _, rfl⟩
    · by_cases h4 : m.state = 4
      · rw [h4] at hc
        go_big_quiet (fail)
        go_wp2_with fail
        go_meet
        exact ⟨by rw [h4]; rfl, _, rfl⟩
      · have g4 : (m.state == 4) = false := by simpa using h4
        go_big_quiet (fail)
        go_wp2_with fail
        go_meet
        exact ⟨by rw [g4]; rfl, _, rfl⟩
  case rest =>
  obtain ⟨rfl, nq, rfl⟩ := hcut
  obtain ⟨mo, Hmo⟩ : ∃ x, Hid (x = (mi && (m.state == 4) && decide (m.number < number))) := ⟨_, Lib.hid rfl⟩
  rw [← Hmo.out]
  have hA4 := hA3.below (belowN (Below.refl _ W4) nq)
  have hU4 := hU3.drewN nq
  have hb4 := belowN hb3 nq
  have hr4 := hr3.drewN nq
  generalize W4.drewN nq = W5 at *
  clear hc huc hA3 hU3 hb3 hr3
  have hc := hA4.blk.cell
  unfold rdCells at hc
  have huc := hU4.cell
  have hs0 : w.heap.size ≤ W5.heap.size := hb4.size
  have Hsd : Hid (sgb = true ↔ data = m.p.sign) := Lib.hid (by rw [Hsgb.out, ← Hsg.out]; simp)
  have Hms : Hid (mi = true ↔ session = m.session) := Lib.hid (by rw [Hmi.out]; simp)
  have Hmm : Hid (mo = true ↔ mi = true ∧ m.state = 4 ∧ m.number < number) := Lib.hid (by rw [Hmo.out]; simp [and_assoc])
  clear Hsgb Hmi Hmo hsg
  have hd8' : data.length ≤ 1000000 := by omega
  have hstr := fun (M : DevM) (G : Nat → Prop) W hW hi hl => rdStrange_any B b mb M G W hW hi hl
  cases mo
  case false =>
    have hq0 : q = m.odds 130 := by rw [Hq.out]; unfold DevM.take; rw [if_neg (by simp), if_neg (by dsimp only; omega), if_neg (by dsimp only; omega), if_neg (fun h => by have := Hmm.out.2 ⟨Hms.out.2 h.2.2.1, h.2.1, h.2.2.2.1⟩; simp at this), if_neg (by dsimp only; omega)]
    clear Hq
    go_wp2_with fail
    go_big_quiet (fail)
    have hA5 := hA4.below (belowN (Below.refl _ W5) nq)
    have hU5 := hU4.drewN nq
    have hb5 := belowN hb4 nq
    have hr5 := hr4.drewN nq
    generalize W5.drewN nq = W6 at *
    clear hc huc hA4 hU4 hb4 hr4
    have hc := hA5.blk.cell
    unfold rdCells at hc
    have huc := hU5.cell
    go_wp2_with fail
    go_big_quiet (fail)
    have hA6 := hA5.below (belowN (Below.refl _ W6) nq)
    have hU6 := hU5.drewN nq
    have hb6 := belowN hb5 nq
    have hr6 := hr5.drewN nq
    generalize W6.drewN nq = W6b at *
    clear hc huc hA5 hU5 hb5 hr5
    have hc := hA6.blk.cell
    unfold rdCells at hc
    have huc := hU6.cell
    go_wp2_with fail
    have tW := hA6.toIs hI0 (fun x hx => .inl (hF x hx)) (Keep.of_below hb6)
    have hst := rdStrange_any B b mb m _ _ tW.is_ hi (by omega)
    have hqi := hi.strange
    have hq : q = (m.strange.1, m.strange.1.none, 130) := hq0
    generalize m.strange = st at *
    obtain ⟨ko, ov⟩ := st
    simp only at hst hqi hq
    obtain ⟨of, Hof⟩ : ∃ of, Hid (of = ko.none) := ⟨_, Lib.hid rfl⟩
    have Hf : Hid (q = (ko, of, 130)) := Lib.hid (by rw [Hof.out]; exact hq)
    clear hq hq0
    refine hst.mono ?_
    rintro e W7 ⟨rfl, t7⟩
    have T7 := RDTo.trans hI0 tW t7
    have hs7 := T7.keep.size
    have hno := rdNone_any B b mb ko _ W7 T7.is_ hqi
    rw [← Hof.out] at hno
    clear hc huc hst t7 tW
    go_wp2_with fail
    refine hno.mono ?_
    rintro e W8 ⟨v8, rfl, hown8, hb8⟩
    obtain ⟨A8, c8, rfl⟩ := own_slice hown8
    go_wp2_with fail
    refine bodyPost_ret (v := .tuple #[.slice A8 of.length c8, .int .i64 130]) (by simp [results, Tryz.results52, go_sem]) rfl ?_
    rw [Hf.out]
    exact ⟨_, rfl, own_base hown8 hs7, RDAp.end_ hI0 T7 hb8 hown8⟩
  case true =>
    by_cases hn : number < m.p.count
    · by_cases hl : (data.length : Int) = m.p.out
      ·
        have hmm := Hmm.out.1 rfl
        have hse : session = m.session := Hms.out.1 hmm.1
        have hst4 := hmm.2.1
        have hlt4 := hmm.2.2
        obtain ⟨m6, Hm6⟩ : ∃ x, Hid (x = ({ m with number := number } : DevM).alive) := ⟨_, Lib.hid rfl⟩
        obtain ⟨m9, Hm9⟩ : ∃ x : DevM, Hid (x = { m6 with valve := (m6.valve.hold (decide (8 ≤ flags))).take data, sent := m6.sent + 1 }) := ⟨_, Lib.hid rfl⟩
        have hq : q = (m9, m9.frame 20 m9.sent (flagsM m9.valve m9.hold) m9.value, 0) := by
          rw [Hq.out, Hm9.out, Hm6.out]; unfold DevM.take
          rw [if_neg (by simp), if_neg (by dsimp only; omega), if_neg (by dsimp only; omega), if_pos ⟨rfl, hst4, hse, hlt4, hl, hn⟩]
        obtain ⟨of, Hof⟩ : ∃ of, Hid (of = m9.frame 20 m9.sent (flagsM m9.valve m9.hold) m9.value) := ⟨_, Lib.hid rfl⟩
        have Hf : Hid (q = (m9, of, 0)) := Lib.hid (by rw [Hof.out]; exact hq)
        have h9i : m9.Inv := by
          have h1 := hi.take (u := ⟨4, code, session, number, flags, data⟩) hok.number
          rw [← Hq.out, hq] at h1
          exact h1
        clear hq Hq
        have e0 : decide (number < m.p.count) = true := by simpa using hn
        have e1 : ((data.length : Int) == m.p.out) = true := by simpa using hl
        go_wp2_with fail
        go_big_quiet (fail)
        have hA5 := hA4.below (belowN (Below.refl _ W5) nq)
        have hU5 := hU4.drewN nq
        have hb5 := belowN hb4 nq
        have hr5 := hr4.drewN nq
        generalize W5.drewN nq = W6 at *
        clear hc huc hA4 hU4 hb4 hr4
        have hc := hA5.blk.cell
        unfold rdCells at hc
        have huc := hU5.cell
        have hf := hA5.blk.frozen
        have hA6 : RDAt B (W6.setCell ⟨b, 20, none⟩ (.int .u32 number)) b mb { m with number := number } κ Al cl vv val cb := hA5.upd (keepB (Keep.refl _ W6)) (by simp [World.setCell]) (by simpa [rdCells] using hA5.blk.set_ 20 (.int .u32 number)) rfl rfl rfl rfl rfl
        have hk6 : Keep F w (W6.setCell ⟨b, 20, none⟩ (.int .u32 number)) := (Keep.of_below hb5).setCell (p := ⟨b, 20, none⟩) (fun _ => hI0.Fb) _
        have hU6 := hU5.far (p := ⟨b, 20, none⟩) hua (.int .u32 number)
        have hr6 : Reads (W6.setCell ⟨b, 20, none⟩ (.int .u32 number)) Br 1 A data.length (u8c data) := hrd.keepS hk6 hrb haf
        go_wp2_with fail
        clear hc hf huc
        have hlt6 := hU6.lt
        generalize W6.setCell ⟨b, 20, none⟩ (.int .u32 number) = W7 at *
        have hs7 := hk6.size
        have I6 : RDIs B W7 b mb { m with number := number } F := ⟨⟨κ, Al, cl, vv, val, cb, hA6, hF⟩, fun x hx => by have := hlo x hx; omega⟩
        refine (rdOn_any B b mb _ F W7 I6 hi.fr).mono ?_
        rintro e W8 ⟨rfl, t8⟩
        have hs8 := t8.keep.size
        have hk8 : Keep F w W8 := hk6.andThen t8.keep (fun _ _ h => h)
        have hU8 := hU6.keep t8.keep (fun hx => huF u0 hx rfl)
        have hr8 := hr6.keepS t8.keep (by omega) haf
        obtain ⟨⟨κ8, A8, c8, vv8, val8, cb8, h8, hF8⟩, hlo8⟩ := t8.is_
        have hF8' : ∀ x, κ8 x ≠ none → grow F w W8 x := fun x hx => (hF8 x hx).elim .inl (fun h => .inr ⟨by omega, h.2⟩)
        rw [← Hm6.out] at h8
        clear hA6 hU6 hr6 t8 hF8 hlo8 I6
        have hc := h8.blk.cell
        unfold rdCells at hc
        have huc := hU8.cell
        replace h8 := h8.drew
        replace hU8 := hU8.drew
        have hbV := h8.valveBlk
        go_wp2_with fail
        go_region_held3 (fun w' => w'.cell? ⟨u0, 4, none⟩ = some (.int .i64 flags)) (exact (hU8.cell 4).trans rfl) (first
          | (go_at_call 105; refine (rvHold_any b 11 _ _ _ m6.p.out m6.valve vv8 _ (decide (8 ≤ flags)) hbV rfl).mono ?_; rintro e W9 ⟨rfl, hv9⟩; have h9 := h8.onValve hv9 (.inl ⟨rfl, rfl⟩); replace hU8 := hU8.keep hv9.2.1 (fun e => hua e)))
        have hk9 : Keep F w W9 := hk8.drew.andThen hv9.2.1 (fun x _ hx => hx ▸ hI0.Fb)
        have hs9 : W8.heap.size ≤ W9.heap.size := hv9.2.1.size
        have hr9 := hr8.drew.keepS hv9.2.1 (by show Br ≤ W8.heap.size; omega) (fun ad e hx => haf ad e (hx ▸ hI0.Fb))
        clear hc huc hbV hv9 h8
        replace h9 := h9.drew
        replace hU8 := hU8.drew
        have hr9d := hr9.drew
        have hvb := h9.valveBlk
        have hvr := h9.vval
        have hnb : ∀ ad, A = some ad → ad.block ≠ b := fun ad e hx => haf ad e (hx ▸ hI0.Fb)
        go_wp2_with fail
        go_region_held3 (fun w' => w'.cell? ⟨u0, 5, none⟩ = some (.slice A data.length c)) (exact (hU8.cell 5).trans rfl) (first
          | (go_at_call 106; refine (rvTake_any b 11 _ _ _ m6.p.out (m6.valve.hold (decide (8 ≤ flags))) vv8 _ A data.length c Br data hvb rfl hvr hr9d (by show Br ≤ W9.heap.size; omega) hd8' hnb).mono ?_; rintro e W10 ⟨rfl, vv10, hB10, hV10, hk10, hn10⟩; have h10 := h9.onTake hB10 hV10 hk10 hn10; replace hU8 := hU8.keep hk10 (fun e => hua e)))
        all_goals
          have hs10 : W9.heap.size ≤ W10.heap.size := hk10.size
          have hkF10 : Keep F w W10 := hk9.drew.andThen hk10 (fun x _ hx => hx ▸ hI0.Fb)
          have hF10 : ∀ x, paint κ8 2 W9.drew W10 x ≠ none → grow F w W10 x := fun x hx => by
            rcases paint_sub (F := grow F w W8) hF8' x hx with (h | h) | h
            · exact .inl h
            · exact .inr ⟨h.1, by omega⟩
            · have e9 : W9.drew.heap.size = W9.heap.size := rfl
              exact .inr ⟨by omega, h.2⟩
          clear hB10 hV10 hk10 hn10 h9 hvb hvr hr9d hnb hU8
          have hc := h10.blk.cell
          have hf := h10.blk.frozen
          have hb10 := h10.blk
          unfold rdCells at hc
          simp only at hc
          have hse6 : m6.sent = m.sent := by rw [Hm6.out]; rfl
          have hsn := hi.sent
          have hnr := hok.number
          simp only at hnr
          have hsw : IntKind.u32.wrap (m6.sent + 1) = m6.sent + 1 := IntWalk.u32_in _ (by omega)
          have h11 : RDAt B (W10.setCell ⟨b, 21, none⟩ (.int .u32 (m6.sent + 1))) b mb { m6 with valve := (m6.valve.hold (decide (8 ≤ flags))).take data, sent := m6.sent + 1 } (paint κ8 2 W9.drew W10) A8 c8 vv10 val8 cb8 :=
            h10.upd (keepB (Keep.refl _ W10)) (by simp [World.setCell]) (by simpa [rdCells] using hb10.set_ 21 (.int .u32 (m6.sent + 1))) rfl rfl rfl rfl rfl
          rw [← Hm9.out] at h11
          have hk11 : Keep F w (W10.setCell ⟨b, 21, none⟩ (.int .u32 (m6.sent + 1))) := hkF10.setCell (p := ⟨b, 21, none⟩) (fun _ => hI0.Fb) _
          have hz11 : (W10.setCell ⟨b, 21, none⟩ (.int .u32 (m6.sent + 1))).heap.size = W10.heap.size := by simp [World.setCell]
          have hse9 : m9.sent = m6.sent + 1 := by rw [Hm9.out]
          have Hsn := Lib.hid hsn
          have Hnr := Lib.hid hnr
          have Hz11 := Lib.hid hz11
          have Hse6 := Lib.hid hse6
          have Hse9 := Lib.hid hse9
          clear hse6 hsn hnr hz11 hse9 h10 hb10
          go_upto_region 28 with fail
          generalize W10.setCell ⟨b, 21, none⟩ (.int .u32 (m6.sent + 1)) = W11 at *
          clear hc hf
          have hs9i := h9i.sent
          have hp9 := h9i.p8
          obtain ⟨N, hN⟩ : ∃ N : Nat, m9.p.out = (N : Int) := ⟨m9.p.out.toNat, by omega⟩
          have hN8 : N ≤ 8 := by omega
          have hvv9 : ∀ l, m9.valve.value = some l → l.length = N := fun l hl => by have := h9i.vval l hl; omega
          have HN := Lib.hid hN
          have T11 := h11.toIs hI0 (fun x hx => (hF10 x hx).elim .inl (fun h => .inr ⟨h.1, by have := Hz11.out; omega⟩)) hk11
          have J11 := T11.is_
          have hs11 := hk11.size
          obtain ⟨Av, cv, rfl⟩ := own_slice h11.value
          have hbe11 := Below.refl W11.heap.size W11
          replace hbe11 := hbe11.drew
          have h12 := h11.drew
          have J12 := J11.below (Below.refl W11.heap.size W11).drew
          have hb12 := h12.blk
          have hvb12 := h12.valveBlk
          rw [HN.out] at hvb12
          have hv12 := h12.vval
          have hrv12 := Reads.of_own h12.value
          have hs21 : 0 ≤ m9.sent ∧ m9.sent < 4294967296 := by have := h9i.number; omega
          obtain ⟨fl, Hfl⟩ : ∃ fl, Hid (fl = flagsM m9.valve m9.hold) := ⟨_, Lib.hid rfl⟩
          have hflg := fun w hb hv => r13flags_any b 11 120 (rdPre m9 mb cb8 (.slice A8 m9.log.length c8) ++ rdogCs m9.p.watch m9.since) (rdPost m9 (.slice Av m9.value.length cv)) N m9.valve vv10 m9.hold w hb rfl hv hN8 hvv9
          rw [← Hfl.out] at hflg Hof
          have hans := fun W J Br hr hB => rdAnswer_any B b mb m9 (grow F w W11) 20 m9.sent fl m9.value Av m9.value.length cv Br W J h9i rfl hs21 hr hB
          rw [← Hof.out] at hans
          clear hN hs9i hp9 h11
          rw [← Hse9.out]
          go_wp2_with fail
          go_region_held (fun w' => w'.cell? ⟨b, 21, none⟩ = some (.int .u32 m9.sent) ∧ w'.cell? ⟨b, 24, none⟩ = some (.bool m9.hold) ∧ w'.cell? ⟨b, 23, none⟩ = some (.slice Av m9.value.length cv)) (exact ⟨(hb12.cell 21).trans rfl, (hb12.cell 24).trans rfl, (hb12.cell 23).trans rfl⟩) (first
            | (go_at_call 107; refine (hflg _ hvb12 hv12).mono ?_; rintro e W13 ⟨rfl, hb13⟩; replace h12 := h12.below hb13; replace J12 := J12.below hb13; replace hb12 := h12.blk; have hrv13 := Reads.of_own h12.value; replace hbe11 := hbe11.trans (hb13.mono hbe11.size))
            | (go_at_call 103; refine (hans _ J12 _ hrv13 (Nat.le_refl _)).mono ?_; rintro e W14 ⟨v14, rfl, hown14, hb14⟩; obtain ⟨A14, c14, rfl⟩ := own_slice hown14; replace h12 := h12.below hb14; replace hb12 := h12.blk))
          have hs13 := hbe11.size
          go_wp2_with fail
          refine bodyPost_ret (v := .tuple #[.slice A14 of.length c14, .int .i64 0]) (by simp [results, Tryz.results52, go_sem]) rfl ?_
          rw [Hf.out]
          exact ⟨_, rfl, own_base hown14 (by omega), RDAp.end_ hI0 T11 (hbe11.trans (hb14.mono hs13)) (own_base hown14 hs13)⟩
      ·
        have hq0 : q = m.odds 130 := by rw [Hq.out]; unfold DevM.take; rw [if_neg (by simp), if_neg (by dsimp only; omega), if_neg (by dsimp only; omega), if_neg (by dsimp only; omega), if_neg (by dsimp only; omega)]
        clear Hq
        have e0 : decide (number < m.p.count) = true := by simpa using hn
        have e1 : ((data.length : Int) == m.p.out) = false := by simpa using hl
        go_wp2_with fail
        go_big_quiet (fail)
        have hA5 := hA4.below (belowN (Below.refl _ W5) nq)
        have hU5 := hU4.drewN nq
        have hb5 := belowN hb4 nq
        have hr5 := hr4.drewN nq
        generalize W5.drewN nq = W6 at *
        clear hc huc hA4 hU4 hb4 hr4
        have hc := hA5.blk.cell
        unfold rdCells at hc
        have huc := hU5.cell
        go_wp2_with fail
        go_big_quiet (fail)
        have hA6 := hA5.below (belowN (Below.refl _ W6) nq)
        have hU6 := hU5.drewN nq
        have hb6 := belowN hb5 nq
        have hr6 := hr5.drewN nq
        generalize W6.drewN nq = W6b at *
        clear hc huc hA5 hU5 hb5 hr5
        have hc := hA6.blk.cell
        unfold rdCells at hc
        have huc := hU6.cell
        go_wp2_with fail
        have tW := hA6.toIs hI0 (fun x hx => .inl (hF x hx)) (Keep.of_below hb6)
        have hst := rdStrange_any B b mb m _ _ tW.is_ hi (by omega)
        have hqi := hi.strange
        have hq : q = (m.strange.1, m.strange.1.none, 130) := hq0
        generalize m.strange = st at *
        obtain ⟨ko, ov⟩ := st
        simp only at hst hqi hq
        obtain ⟨of, Hof⟩ : ∃ of, Hid (of = ko.none) := ⟨_, Lib.hid rfl⟩
        have Hf : Hid (q = (ko, of, 130)) := Lib.hid (by rw [Hof.out]; exact hq)
        clear hq hq0
        refine hst.mono ?_
        rintro e W7 ⟨rfl, t7⟩
        have T7 := RDTo.trans hI0 tW t7
        have hs7 := T7.keep.size
        have hno := rdNone_any B b mb ko _ W7 T7.is_ hqi
        rw [← Hof.out] at hno
        clear hc huc hst t7 tW
        go_wp2_with fail
        refine hno.mono ?_
        rintro e W8 ⟨v8, rfl, hown8, hb8⟩
        obtain ⟨A8, c8, rfl⟩ := own_slice hown8
        go_wp2_with fail
        refine bodyPost_ret (v := .tuple #[.slice A8 of.length c8, .int .i64 130]) (by simp [results, Tryz.results52, go_sem]) rfl ?_
        rw [Hf.out]
        exact ⟨_, rfl, own_base hown8 hs7, RDAp.end_ hI0 T7 hb8 hown8⟩
    ·
      have hq0 : q = m.odds 130 := by rw [Hq.out]; unfold DevM.take; rw [if_neg (by simp), if_neg (by dsimp only; omega), if_neg (by dsimp only; omega), if_neg (by dsimp only; omega), if_neg (by dsimp only; omega)]
      clear Hq
      have e0 : decide (number < m.p.count) = false := by simpa using hn
      go_wp2_with fail
      go_big_quiet (fail)
      have hA5 := hA4.below (belowN (Below.refl _ W5) nq)
      have hU5 := hU4.drewN nq
      have hb5 := belowN hb4 nq
      have hr5 := hr4.drewN nq
      generalize W5.drewN nq = W6 at *
      clear hc huc hA4 hU4 hb4 hr4
      have hc := hA5.blk.cell
      unfold rdCells at hc
      have huc := hU5.cell
      go_wp2_with fail
      go_big_quiet (fail)
      have hA6 := hA5.below (belowN (Below.refl _ W6) nq)
      have hU6 := hU5.drewN nq
      have hb6 := belowN hb5 nq
      have hr6 := hr5.drewN nq
      generalize W6.drewN nq = W6b at *
      clear hc huc hA5 hU5 hb5 hr5
      have hc := hA6.blk.cell
      unfold rdCells at hc
      have huc := hU6.cell
      go_wp2_with fail
      have tW := hA6.toIs hI0 (fun x hx => .inl (hF x hx)) (Keep.of_below hb6)
      have hst := rdStrange_any B b mb m _ _ tW.is_ hi (by omega)
      have hqi := hi.strange
      have hq : q = (m.strange.1, m.strange.1.none, 130) := hq0
      generalize m.strange = st at *
      obtain ⟨ko, ov⟩ := st
      simp only at hst hqi hq
      obtain ⟨of, Hof⟩ : ∃ of, Hid (of = ko.none) := ⟨_, Lib.hid rfl⟩
      have Hf : Hid (q = (ko, of, 130)) := Lib.hid (by rw [Hof.out]; exact hq)
      clear hq hq0
      refine hst.mono ?_
      rintro e W7 ⟨rfl, t7⟩
      have T7 := RDTo.trans hI0 tW t7
      have hs7 := T7.keep.size
      have hno := rdNone_any B b mb ko _ W7 T7.is_ hqi
      rw [← Hof.out] at hno
      clear hc huc hst t7 tW
      go_wp2_with fail
      refine hno.mono ?_
      rintro e W8 ⟨v8, rfl, hown8, hb8⟩
      obtain ⟨A8, c8, rfl⟩ := own_slice hown8
      go_wp2_with fail
      refine bodyPost_ret (v := .tuple #[.slice A8 of.length c8, .int .i64 130]) (by simp [results, Tryz.results52, go_sem]) rfl ?_
      rw [Hf.out]
      exact ⟨_, rfl, own_base hown8 hs7, RDAp.end_ hI0 T7 hb8 hown8⟩
end Go.Proofs.YtbkkfkbgcklkgaaGreat
/- The reference's device takes a unit: kind 5. -/
namespace Go.Proofs.YtbkkfkbgcklkgaaGreat
open Go.RowKit
set_option maxHeartbeats 10000000
set_option maxRecDepth 100000
theorem rdUnit_5 (B b mb : Nat) (m : DevM) (F : Nat → Prop) (kind code session number flags : Int) (data : List UInt8) (A : Option Addr) (c Br : Nat) (w : World) (hk : kind = 5) (h : RDTake B w b mb m F ⟨kind, code, session, number, flags, data⟩ A Br) :
    Calls Tryz.prog 52 #[.pointer (some ⟨b, 0, none⟩), unitVal ⟨kind, code, session, number, flags, data⟩ (.slice A data.length c)] w fun e w' => RDAns B w b mb F (m.take ⟨kind, code, session, number, flags, data⟩) e w' := by
  subst hk
  have hI0 := h.is_
  have hi := h.inv
  have hlen := h.len
  have hrd := h.rd
  have hrb := h.rb
  have hd8 := h.d8
  have haf := h.af
  have hok := h.ok
  simp only at hrd hd8
  obtain ⟨q, Hq⟩ : ∃ q, Hid (q = m.take ⟨5, code, session, number, flags, data⟩) := ⟨_, Lib.hid rfl⟩
  rw [← Hq.out]
  obtain ⟨⟨κ, Al, cl, vv, val, cb, hH, hF⟩, hlo⟩ := h.is_
  have hb0 : Below w.heap.size w (w.alloc (.cells #[.int .i64 5, .int .u32 code, .int .u32 session, .int .u32 number, .int .i64 flags, .slice A data.length c] 68)) := (Below.refl _ _).alloc (Nat.le_refl _) _
  have hA1 := hH.below hb0
  have hU1 := Blk.new w 68 #[.int .i64 5, .int .u32 code, .int .u32 session, .int .u32 number, .int .i64 flags, .slice A data.length c]
  have hua : w.heap.size ≠ b := by have := (hH.inF hH.kb).2; omega
  have huF : ∀ x, F x → x ≠ w.heap.size := fun x hx e => by have := (hlo x hx).2; omega
  obtain ⟨u0, Hu0⟩ : ∃ e, Hid (e = w.heap.size) := ⟨_, Lib.hid rfl⟩
  have hsg := fun W => r9sign_any m.p W hi.pok hi.plaw
  unfold parVal at hsg
  obtain ⟨sg, Hsg⟩ : ∃ x, Hid (x = m.p.sign) := ⟨_, Lib.hid rfl⟩
  rw [← Hsg.out] at hsg
  clear h
  unfold RDAns
  unfold unitVal
  simp only
  go_enter Tryz.func52, Tryz.ntmps52
  go_upto_region 1 with fail
  rw [← Hu0.out] at hU1 hua huF ⊢
  generalize w.alloc (.cells _ 68) = W1 at *
  have huc := hU1.cell
  have hr1 := hrd.below (hb0.mono hrb)
  have hs1 := hb0.size
  have hA2 := hA1.drew
  have hU2 := hU1.drew
  have hb2 := hb0.drew
  have hr2 := hr1.drew
  have hbH := hA2.blk
  have hB2 : Br ≤ W1.drew.heap.size := by show Br ≤ W1.heap.size; omega
  go_wp2_with fail
  go_region_held (fun w' => w'.cell? ⟨b, 0, none⟩ = some (.int .u32 m.p.code) ∧ w'.cell? ⟨b, 1, none⟩ = some (.int .i64 m.p.out) ∧ w'.cell? ⟨b, 2, none⟩ = some (.int .i64 m.p.inn) ∧ w'.cell? ⟨b, 3, none⟩ = some (.int .i64 m.p.watch) ∧ w'.cell? ⟨b, 4, none⟩ = some (.int .u32 m.p.count) ∧ w'.cell? ⟨u0, 5, none⟩ = some (.slice A data.length c) ∧ (convert 41 9 (.slice A data.length c)).run Tryz.prog w' = .ok (.string ⟨data.toArray⟩) w') (exact rdS5 hbH hU2 hr2) (first
    | (go_at_call 29; refine (hsg _).mono ?_; rintro e W3 ⟨v3, rfl, hown3, hb3⟩; obtain ⟨A3, c3, hv3⟩ := own_slice hown3; subst hv3; have hcv := conv_reads (c := c3) (Reads.of_own hown3); replace hA2 := hA2.below hb3; clear hbH; have hbH := hA2.blk; replace hU2 := hU2.below hb3 hU2.lt; replace hr2 := hr2.below (hb3.mono hB2); replace hb2 := hb2.trans (hb3.mono hb2.size)))
  clear huc hcv hA1 hU1 hr1
  obtain ⟨sgb, Hsgb⟩ : ∃ x, Hid (x = (data == sg)) := ⟨_, Lib.hid rfl⟩
  rw [← Hsgb.out]
  clear hbH
  have hc := hA2.blk.cell
  unfold rdCells at hc
  have huc := hU2.cell
  go_wp2_with fail
  go_big_quiet (fail)
  have hA3 := hA2.below (belowN (Below.refl _ W3) nq)
  have hU3 := hU2.drewN nq
  have hb3 := belowN hb2 nq
  have hr3 := hr2.drewN nq
  generalize W3.drewN nq = W4 at *
  clear hc huc hA2 hU2 hb2 hr2
  have hc := hA3.blk.cell
  unfold rdCells at hc
  have huc := hU3.cell
  obtain ⟨mi, Hmi⟩ : ∃ x, Hid (x = (session == m.session)) := ⟨_, Lib.hid rfl⟩
  rw [← Hmi.out]
  go_upto_region 3 with fail
  go_cut [8] (fun v8 wc => v8 = .bool (mi && (m.state == 4) && decide (m.number < number)) ∧ ∃ n, wc = W4.drewN n)
  case first =>
    cases mi
    · go_big_quiet (fail)
      go_wp2_with fail
      go_meet
      exact ⟨rfl, _, rfl⟩
    · by_cases h4 : m.state = 4
      · rw [h4] at hc
        go_big_quiet (fail)
        go_wp2_with fail
        go_meet
        exact ⟨by rw [h4]; rfl, _, rfl⟩
      · have g4 : (m.state == 4) = false := by simpa using h4
        go_big_quiet (fail)
        go_wp2_with fail
        go_meet
        exact ⟨by rw [g4]; rfl, _, rfl⟩
  case rest =>
  obtain ⟨rfl, nq, rfl⟩ := hcut
  obtain ⟨mo, Hmo⟩ : ∃ x, Hid (x = (mi && (m.state == 4) && decide (m.number < number))) := ⟨_, Lib.hid rfl⟩
  rw [← Hmo.out]
  have hA4 := hA3.below (belowN (Below.refl _ W4) nq)
  have hU4 := hU3.drewN nq
  have hb4 := belowN hb3 nq
  have hr4 := hr3.drewN nq
  generalize W4.drewN nq = W5 at *
  clear hc huc hA3 hU3 hb3 hr3
  have hc := hA4.blk.cell
  unfold rdCells at hc
  have huc := hU4.cell
  have hs0 : w.heap.size ≤ W5.heap.size := hb4.size
  have Hsd : Hid (sgb = true ↔ data = m.p.sign) := Lib.hid (by rw [Hsgb.out, ← Hsg.out]; simp)
  have Hms : Hid (mi = true ↔ session = m.session) := Lib.hid (by rw [Hmi.out]; simp)
  have Hmm : Hid (mo = true ↔ mi = true ∧ m.state = 4 ∧ m.number < number) := Lib.hid (by rw [Hmo.out]; simp [and_assoc])
  clear Hsgb Hmi Hmo hsg
  have hd8' : data.length ≤ 1000000 := by omega
  have hstr := fun (M : DevM) (G : Nat → Prop) W hW hi hl => rdStrange_any B b mb M G W hW hi hl
  cases mo
  case false =>
    have hq0 : q = m.odds 130 := by rw [Hq.out]; unfold DevM.take; rw [if_neg (by simp), if_neg (by dsimp only; omega), if_neg (by dsimp only; omega), if_neg (by dsimp only; omega), if_neg (fun h => by have := Hmm.out.2 ⟨Hms.out.2 h.2.2.1, h.2.1, h.2.2.2.1⟩; simp at this)]
    clear Hq
    go_wp2_with fail
    go_big_quiet (fail)
    have hA5 := hA4.below (belowN (Below.refl _ W5) nq)
    have hU5 := hU4.drewN nq
    have hb5 := belowN hb4 nq
    have hr5 := hr4.drewN nq
    generalize W5.drewN nq = W6 at *
    clear hc huc hA4 hU4 hb4 hr4
    have hc := hA5.blk.cell
    unfold rdCells at hc
    have huc := hU5.cell
    go_wp2_with fail
    go_big_quiet (fail)
    have hA6 := hA5.below (belowN (Below.refl _ W6) nq)
    have hU6 := hU5.drewN nq
    have hb6 := belowN hb5 nq
    have hr6 := hr5.drewN nq
    generalize W6.drewN nq = W6b at *
    clear hc huc hA5 hU5 hb5 hr5
    have hc := hA6.blk.cell
    unfold rdCells at hc
    have huc := hU6.cell
    go_wp2_with fail
    have tW := hA6.toIs hI0 (fun x hx => .inl (hF x hx)) (Keep.of_below hb6)
    have hst := rdStrange_any B b mb m _ _ tW.is_ hi (by omega)
    have hqi := hi.strange
    have hq : q = (m.strange.1, m.strange.1.none, 130) := hq0
    generalize m.strange = st at *
    obtain ⟨ko, ov⟩ := st
    simp only at hst hqi hq
    obtain ⟨of, Hof⟩ : ∃ of, Hid (of = ko.none) := ⟨_, Lib.hid rfl⟩
    have Hf : Hid (q = (ko, of, 130)) := Lib.hid (by rw [Hof.out]; exact hq)
    clear hq hq0
    refine hst.mono ?_
    rintro e W7 ⟨rfl, t7⟩
    have T7 := RDTo.trans hI0 tW t7
    have hs7 := T7.keep.size
    have hno := rdNone_any B b mb ko _ W7 T7.is_ hqi
    rw [← Hof.out] at hno
    clear hc huc hst t7 tW
    go_wp2_with fail
    refine hno.mono ?_
    rintro e W8 ⟨v8, rfl, hown8, hb8⟩
    obtain ⟨A8, c8, rfl⟩ := own_slice hown8
    go_wp2_with fail
    refine bodyPost_ret (v := .tuple #[.slice A8 of.length c8, .int .i64 130]) (by simp [results, Tryz.results52, go_sem]) rfl ?_
    rw [Hf.out]
    exact ⟨_, rfl, own_base hown8 hs7, RDAp.end_ hI0 T7 hb8 hown8⟩
  case true =>
    by_cases hn : number = m.p.count
    ·
      have hmm := Hmm.out.1 rfl
      have hse : session = m.session := Hms.out.1 hmm.1
      have hst4 := hmm.2.1
      have hlt4 := hmm.2.2
      obtain ⟨m6, Hm6⟩ : ∃ x, Hid (x = (({ m with number := number } : DevM).alive).trip 80) := ⟨_, Lib.hid rfl⟩
      obtain ⟨m9, Hm9⟩ : ∃ x : DevM, Hid (x = { ({ m6 with sent := m.p.count } : DevM).run false with state := 5 }) := ⟨_, Lib.hid rfl⟩
      have hq : q = (m9, m9.frame 21 m.p.count 0 [], 0) := by
        rw [Hq.out, Hm9.out, Hm6.out]; unfold DevM.take
        rw [if_neg (by simp), if_neg (by dsimp only; omega), if_neg (by dsimp only; omega), if_neg (by dsimp only; omega), if_pos ⟨rfl, hst4, hse, hlt4, hn⟩]
        rfl
      obtain ⟨of, Hof⟩ : ∃ of, Hid (of = m9.frame 21 m.p.count 0 []) := ⟨_, Lib.hid rfl⟩
      have Hf : Hid (q = (m9, of, 0)) := Lib.hid (by rw [Hof.out]; exact hq)
      have h9i : m9.Inv := by
        have h1 := hi.take (u := ⟨5, code, session, number, flags, data⟩) hok.number
        rw [← Hq.out, hq] at h1
        exact h1
      have hp6 : m6.p = m.p := by rw [Hm6.out]; rfl
      clear hq Hq
      have e0 : (number == m.p.count) = true := by simpa using hn
      have Hn := Lib.hid hn
      clear hn
      go_wp2_with fail
      go_big_quiet (fail)
      have hA5 := hA4.below (belowN (Below.refl _ W5) nq)
      have hU5 := hU4.drewN nq
      have hb5 := belowN hb4 nq
      have hr5 := hr4.drewN nq
      generalize W5.drewN nq = W6 at *
      clear hc huc hA4 hU4 hb4 hr4
      have hc := hA5.blk.cell
      unfold rdCells at hc
      have huc := hU5.cell
      go_wp2_with fail
      go_big_quiet (fail)
      have hA6 := hA5.below (belowN (Below.refl _ W6) nq)
      have hU6 := hU5.drewN nq
      have hb6 := belowN hb5 nq
      have hr6 := hr5.drewN nq
      generalize W6.drewN nq = W6b at *
      clear hc huc hA5 hU5 hb5 hr5
      have hc := hA6.blk.cell
      unfold rdCells at hc
      have huc := hU6.cell
      have hf := hA6.blk.frozen
      have hA7 : RDAt B (W6b.setCell ⟨b, 20, none⟩ (.int .u32 number)) b mb { m with number := number } κ Al cl vv val cb := hA6.upd (keepB (Keep.refl _ W6b)) (by simp [World.setCell]) (by simpa [rdCells] using hA6.blk.set_ 20 (.int .u32 number)) rfl rfl rfl rfl rfl
      have hk7 : Keep F w (W6b.setCell ⟨b, 20, none⟩ (.int .u32 number)) := (Keep.of_below hb6).setCell (p := ⟨b, 20, none⟩) (fun _ => hI0.Fb) _
      have t7 := hA7.toIs hI0 (fun x hx => .inl (hF x hx)) hk7
      go_wp2_with fail
      clear hc hf huc
      refine (rdOn_any B b mb _ _ _ t7.is_ hi.fr).mono ?_
      rintro e W8 ⟨rfl, t8⟩
      have T8 := RDTo.trans hI0 t7 t8
      clear t8 hA7 hk7
      go_wp2_with fail
      refine (rdLatch_any B b mb _ _ 80 W8 (by decide) T8.is_ (by simp only [DevM.alive]; omega)).mono ?_
      rintro e W9 ⟨rfl, t9⟩
      have T9 := RDTo.trans hI0 T8 t9
      rw [← Hm6.out] at T9
      clear t9 T8 t7
      obtain ⟨⟨κ9, A9, c9, vv9, val9, cb9, h9, hF9⟩, hlo9⟩ := id T9.is_
      have hb9 := h9.blk
      have hc := hb9.cell
      have hf := hb9.frozen
      unfold rdCells at hc
      have hp6c : m6.p.count = m.p.count := by rw [hp6]
      rw [hp6c] at hc
      have h10 : RDAt B (W9.setCell ⟨b, 21, none⟩ (.int .u32 m.p.count)) b mb { m6 with sent := m.p.count } κ9 A9 c9 vv9 val9 cb9 := h9.upd (keepB (Keep.refl _ W9)) (by simp [World.setCell]) (by simpa [rdCells] using hb9.set_ 21 (.int .u32 m.p.count)) rfl rfl rfl rfl rfl
      have T10 := RDTo.trans hI0 T9 (h9.toOwn T9.is_ hF9 h10 (keepB (Keep.refl _ W9)))
      have hk10 := T10.keep
      have hs9 : W9.heap.size = (W9.setCell ⟨b, 21, none⟩ (.int .u32 m.p.count)).heap.size := by simp [World.setCell]
      have hF10 : ∀ x, κ9 x ≠ none → grow F w (W9.setCell ⟨b, 21, none⟩ (.int .u32 m.p.count)) x := fun x hx => (hF9 x hx).elim .inl (fun h => .inr ⟨h.1, by omega⟩)
      have Hs9 := Lib.hid hs9
      clear T9 T10 hs9 h9
      go_wp2_with fail
      clear hc hf
      refine (rvRun_any b 11 _ _ _ _ _ vv9 _ false h10.valveBlk rfl).mono ?_
      rintro e W11 ⟨rfl, hv⟩
      have h11 := h10.onValve hv (run_val _ false vv9)
      have hk11 : Keep F w W11 := hk10.andThen hv.2.1 (fun x _ e => e ▸ hI0.Fb)
      have hz11 := hv.2.2
      have hF11 : ∀ x, κ9 x ≠ none → grow F w W11 x := fun x hx => (hF10 x hx).elim .inl (fun h => .inr ⟨h.1, by omega⟩)
      have Hz11 := Lib.hid hz11
      clear hv hz11 hk10 hF10 h10
      have hb11 := h11.blk
      have hc := hb11.cell
      have hf := hb11.frozen
      unfold rdCells at hc
      simp only at hc
      have h12 : RDAt B (W11.setCell ⟨b, 18, none⟩ (.int .i64 5)) b mb { ({ m6 with sent := m.p.count } : DevM).run false with state := 5 } κ9 A9 c9 _ val9 cb9 := h11.upd (keepB (Keep.refl _ W11)) (by simp [World.setCell]) (by simpa [rdCells, DevM.run] using hb11.set_ 18 (.int .i64 5)) rfl rfl rfl rfl rfl
      rw [← Hm9.out] at h12
      have hk12 : Keep F w (W11.setCell ⟨b, 18, none⟩ (.int .i64 5)) := hk11.setCell (p := ⟨b, 18, none⟩) (fun _ => hI0.Fb) _
      have hz12 : (W11.setCell ⟨b, 18, none⟩ (.int .i64 5)).heap.size = W11.heap.size := by simp [World.setCell]
      have T12 := h12.toIs hI0 (fun x hx => (hF11 x hx).elim .inl (fun h => .inr ⟨h.1, by omega⟩)) hk12
      have hs12 := T12.keep.size
      have hct := hi.pok.count
      have han := rdAnswer_any B b mb m9 _ 21 m.p.count 0 [] none 0 0 0 _ T12.is_ h9i rfl (by have := hi.p8; omega) Reads.none_ (Nat.zero_le _)
      rw [← Hof.out] at han
      clear hz12 h11 h12 hct
      go_wp2_with fail
      refine han.mono ?_
      rintro e W14 ⟨v14, rfl, hown14, hb14⟩
      obtain ⟨A14, c14, rfl⟩ := own_slice hown14
      go_wp2_with fail
      refine bodyPost_ret (v := .tuple #[.slice A14 of.length c14, .int .i64 0]) (by simp [results, Tryz.results52, go_sem]) rfl ?_
      rw [Hf.out]
      exact ⟨_, rfl, own_base hown14 hs12, RDAp.end_ hI0 T12 hb14 hown14⟩
    ·
      have hq0 : q = m.odds 130 := by rw [Hq.out]; unfold DevM.take; rw [if_neg (by simp), if_neg (by dsimp only; omega), if_neg (by dsimp only; omega), if_neg (by dsimp only; omega), if_neg (by dsimp only; omega)]
      clear Hq
      have e0 : (number == m.p.count) = false := by simpa using hn
      go_wp2_with fail
      go_big_quiet (fail)
      have hA5 := hA4.below (belowN (Below.refl _ W5) nq)
      have hU5 := hU4.drewN nq
      have hb5 := belowN hb4 nq
      have hr5 := hr4.drewN nq
      generalize W5.drewN nq = W6 at *
      clear hc huc hA4 hU4 hb4 hr4
      have hc := hA5.blk.cell
      unfold rdCells at hc
      have huc := hU5.cell
      go_wp2_with fail
      go_big_quiet (fail)
      have hA6 := hA5.below (belowN (Below.refl _ W6) nq)
      have hU6 := hU5.drewN nq
      have hb6 := belowN hb5 nq
      have hr6 := hr5.drewN nq
      generalize W6.drewN nq = W6b at *
      clear hc huc hA5 hU5 hb5 hr5
      have hc := hA6.blk.cell
      unfold rdCells at hc
      have huc := hU6.cell
      go_wp2_with fail
      have tW := hA6.toIs hI0 (fun x hx => .inl (hF x hx)) (Keep.of_below hb6)
      have hst := rdStrange_any B b mb m _ _ tW.is_ hi (by omega)
      have hqi := hi.strange
      have hq : q = (m.strange.1, m.strange.1.none, 130) := hq0
      generalize m.strange = st at *
      obtain ⟨ko, ov⟩ := st
      simp only at hst hqi hq
      obtain ⟨of, Hof⟩ : ∃ of, Hid (of = ko.none) := ⟨_, Lib.hid rfl⟩
      have Hf : Hid (q = (ko, of, 130)) := Lib.hid (by rw [Hof.out]; exact hq)
      clear hq hq0
      refine hst.mono ?_
      rintro e W7 ⟨rfl, t7⟩
      have T7 := RDTo.trans hI0 tW t7
      have hs7 := T7.keep.size
      have hno := rdNone_any B b mb ko _ W7 T7.is_ hqi
      rw [← Hof.out] at hno
      clear hc huc hst t7 tW
      go_wp2_with fail
      refine hno.mono ?_
      rintro e W8 ⟨v8, rfl, hown8, hb8⟩
      obtain ⟨A8, c8, rfl⟩ := own_slice hown8
      go_wp2_with fail
      refine bodyPost_ret (v := .tuple #[.slice A8 of.length c8, .int .i64 130]) (by simp [results, Tryz.results52, go_sem]) rfl ?_
      rw [Hf.out]
      exact ⟨_, rfl, own_base hown8 hs7, RDAp.end_ hI0 T7 hb8 hown8⟩
end Go.Proofs.YtbkkfkbgcklkgaaGreat
/- The reference's device takes a unit: kind o. -/
namespace Go.Proofs.YtbkkfkbgcklkgaaGreat
open Go.RowKit
set_option maxHeartbeats 10000000
set_option maxRecDepth 100000
theorem rdUnit_o (B b mb : Nat) (m : DevM) (F : Nat → Prop) (kind code session number flags : Int) (data : List UInt8) (A : Option Addr) (c Br : Nat) (w : World) (k1 : kind ≠ 1) (k2 : kind ≠ 2) (k3 : kind ≠ 3) (k4 : kind ≠ 4) (k5 : kind ≠ 5) (h : RDTake B w b mb m F ⟨kind, code, session, number, flags, data⟩ A Br) :
    Calls Tryz.prog 52 #[.pointer (some ⟨b, 0, none⟩), unitVal ⟨kind, code, session, number, flags, data⟩ (.slice A data.length c)] w fun e w' => RDAns B w b mb F (m.take ⟨kind, code, session, number, flags, data⟩) e w' := by
  have hI0 := h.is_
  have hi := h.inv
  have hlen := h.len
  have hrd := h.rd
  have hrb := h.rb
  have hd8 := h.d8
  have haf := h.af
  have hok := h.ok
  simp only at hrd hd8
  obtain ⟨q, Hq⟩ : ∃ q, Hid (q = m.take ⟨kind, code, session, number, flags, data⟩) := ⟨_, Lib.hid rfl⟩
  rw [← Hq.out]
  obtain ⟨⟨κ, Al, cl, vv, val, cb, hH, hF⟩, hlo⟩ := h.is_
  have hb0 : Below w.heap.size w (w.alloc (.cells #[.int .i64 kind, .int .u32 code, .int .u32 session, .int .u32 number, .int .i64 flags, .slice A data.length c] 68)) := (Below.refl _ _).alloc (Nat.le_refl _) _
  have hA1 := hH.below hb0
  have hU1 := Blk.new w 68 #[.int .i64 kind, .int .u32 code, .int .u32 session, .int .u32 number, .int .i64 flags, .slice A data.length c]
  have hua : w.heap.size ≠ b := by have := (hH.inF hH.kb).2; omega
  have huF : ∀ x, F x → x ≠ w.heap.size := fun x hx e => by have := (hlo x hx).2; omega
  obtain ⟨u0, Hu0⟩ : ∃ e, Hid (e = w.heap.size) := ⟨_, Lib.hid rfl⟩
  have hsg := fun W => r9sign_any m.p W hi.pok hi.plaw
  unfold parVal at hsg
  obtain ⟨sg, Hsg⟩ : ∃ x, Hid (x = m.p.sign) := ⟨_, Lib.hid rfl⟩
  rw [← Hsg.out] at hsg
  clear h
  unfold RDAns
  unfold unitVal
  simp only
  go_enter Tryz.func52, Tryz.ntmps52
  go_upto_region 1 with fail
  rw [← Hu0.out] at hU1 hua huF ⊢
  generalize w.alloc (.cells _ 68) = W1 at *
  have huc := hU1.cell
  have hr1 := hrd.below (hb0.mono hrb)
  have hs1 := hb0.size
  have hA2 := hA1.drew
  have hU2 := hU1.drew
  have hb2 := hb0.drew
  have hr2 := hr1.drew
  have hbH := hA2.blk
  have hB2 : Br ≤ W1.drew.heap.size := by show Br ≤ W1.heap.size; omega
  go_wp2_with fail
  go_region_held (fun w' => w'.cell? ⟨b, 0, none⟩ = some (.int .u32 m.p.code) ∧ w'.cell? ⟨b, 1, none⟩ = some (.int .i64 m.p.out) ∧ w'.cell? ⟨b, 2, none⟩ = some (.int .i64 m.p.inn) ∧ w'.cell? ⟨b, 3, none⟩ = some (.int .i64 m.p.watch) ∧ w'.cell? ⟨b, 4, none⟩ = some (.int .u32 m.p.count) ∧ w'.cell? ⟨u0, 5, none⟩ = some (.slice A data.length c) ∧ (convert 41 9 (.slice A data.length c)).run Tryz.prog w' = .ok (.string ⟨data.toArray⟩) w') (exact rdS5 hbH hU2 hr2) (first
    | (go_at_call 29; refine (hsg _).mono ?_; rintro e W3 ⟨v3, rfl, hown3, hb3⟩; obtain ⟨A3, c3, hv3⟩ := own_slice hown3; subst hv3; have hcv := conv_reads (c := c3) (Reads.of_own hown3); replace hA2 := hA2.below hb3; clear hbH; have hbH := hA2.blk; replace hU2 := hU2.below hb3 hU2.lt; replace hr2 := hr2.below (hb3.mono hB2); replace hb2 := hb2.trans (hb3.mono hb2.size)))
  clear huc hcv hA1 hU1 hr1
  obtain ⟨sgb, Hsgb⟩ : ∃ x, Hid (x = (data == sg)) := ⟨_, Lib.hid rfl⟩
  rw [← Hsgb.out]
  clear hbH
  have hc := hA2.blk.cell
  unfold rdCells at hc
  have huc := hU2.cell
  go_wp2_with fail
  go_big_quiet (fail)
  have hA3 := hA2.below (belowN (Below.refl _ W3) nq)
  have hU3 := hU2.drewN nq
  have hb3 := belowN hb2 nq
  have hr3 := hr2.drewN nq
  generalize W3.drewN nq = W4 at *
  clear hc huc hA2 hU2 hb2 hr2
  have hc := hA3.blk.cell
  unfold rdCells at hc
  have huc := hU3.cell
  obtain ⟨mi, Hmi⟩ : ∃ x, Hid (x = (session == m.session)) := ⟨_, Lib.hid rfl⟩
  rw [← Hmi.out]
  go_upto_region 3 with fail
  go_cut [8] (fun v8 wc => v8 = .bool (mi && (m.state == 4) && decide (m.number < number)) ∧ ∃ n, wc = W4.drewN n)
  case first =>
    cases mi
    · go_big_quiet (fail)
      go_wp2_with fail
      go_meet
      exact ⟨rfl, _, rfl⟩
    · by_cases h4 : m.state = 4
      · rw [h4] at hc
        go_big_quiet (fail)
        go_wp2_with fail
        go_meet
        exact ⟨by rw [h4]; rfl, _, rfl⟩
      · have g4 : (m.state == 4) = false := by simpa using h4
        go_big_quiet (fail)
        go_wp2_with fail
        go_meet
        exact ⟨by rw [g4]; rfl, _, rfl⟩
  case rest =>
  obtain ⟨rfl, nq, rfl⟩ := hcut
  obtain ⟨mo, Hmo⟩ : ∃ x, Hid (x = (mi && (m.state == 4) && decide (m.number < number))) := ⟨_, Lib.hid rfl⟩
  rw [← Hmo.out]
  have hA4 := hA3.below (belowN (Below.refl _ W4) nq)
  have hU4 := hU3.drewN nq
  have hb4 := belowN hb3 nq
  have hr4 := hr3.drewN nq
  generalize W4.drewN nq = W5 at *
  clear hc huc hA3 hU3 hb3 hr3
  have hc := hA4.blk.cell
  unfold rdCells at hc
  have huc := hU4.cell
  have hs0 : w.heap.size ≤ W5.heap.size := hb4.size
  have Hsd : Hid (sgb = true ↔ data = m.p.sign) := Lib.hid (by rw [Hsgb.out, ← Hsg.out]; simp)
  have Hms : Hid (mi = true ↔ session = m.session) := Lib.hid (by rw [Hmi.out]; simp)
  have Hmm : Hid (mo = true ↔ mi = true ∧ m.state = 4 ∧ m.number < number) := Lib.hid (by rw [Hmo.out]; simp [and_assoc])
  clear Hsgb Hmi Hmo hsg
  have hd8' : data.length ≤ 1000000 := by omega
  have hstr := fun (M : DevM) (G : Nat → Prop) W hW hi hl => rdStrange_any B b mb M G W hW hi hl
  have hq0 : q = m.odds 130 := by rw [Hq.out]; unfold DevM.take; rw [if_neg (by dsimp only; omega), if_neg (by dsimp only; omega), if_neg (by dsimp only; omega), if_neg (by dsimp only; omega), if_neg (by dsimp only; omega)]
  clear Hq
  have e1 : (kind == 1) = false := by simpa using k1
  have e2 : (kind == 2) = false := by simpa using k2
  have e3 : (kind == 3) = false := by simpa using k3
  have e4 : (kind == 4) = false := by simpa using k4
  have e5 : (kind == 5) = false := by simpa using k5
  go_wp2_with fail
  go_big_quiet (fail)
  have hA5 := hA4.below (belowN (Below.refl _ W5) nq)
  have hU5 := hU4.drewN nq
  have hb5 := belowN hb4 nq
  have hr5 := hr4.drewN nq
  generalize W5.drewN nq = W6 at *
  clear hc huc hA4 hU4 hb4 hr4
  have hc := hA5.blk.cell
  unfold rdCells at hc
  have huc := hU5.cell
  go_wp2_with fail
  go_big_quiet (fail)
  have hA6 := hA5.below (belowN (Below.refl _ W6) nq)
  have hU6 := hU5.drewN nq
  have hb6 := belowN hb5 nq
  have hr6 := hr5.drewN nq
  generalize W6.drewN nq = W6b at *
  clear hc huc hA5 hU5 hb5 hr5
  have hc := hA6.blk.cell
  unfold rdCells at hc
  have huc := hU6.cell
  go_wp2_with fail
  have tW := hA6.toIs hI0 (fun x hx => .inl (hF x hx)) (Keep.of_below hb6)
  have hst := rdStrange_any B b mb m _ _ tW.is_ hi (by omega)
  have hqi := hi.strange
  have hq : q = (m.strange.1, m.strange.1.none, 130) := hq0
  generalize m.strange = st at *
  obtain ⟨ko, ov⟩ := st
  simp only at hst hqi hq
  obtain ⟨of, Hof⟩ : ∃ of, Hid (of = ko.none) := ⟨_, Lib.hid rfl⟩
  have Hf : Hid (q = (ko, of, 130)) := Lib.hid (by rw [Hof.out]; exact hq)
  clear hq hq0
  refine hst.mono ?_
  rintro e W7 ⟨rfl, t7⟩
  have T7 := RDTo.trans hI0 tW t7
  have hs7 := T7.keep.size
  have hno := rdNone_any B b mb ko _ W7 T7.is_ hqi
  rw [← Hof.out] at hno
  clear hc huc hst t7 tW
  go_wp2_with fail
  refine hno.mono ?_
  rintro e W8 ⟨v8, rfl, hown8, hb8⟩
  obtain ⟨A8, c8, rfl⟩ := own_slice hown8
  go_wp2_with fail
  refine bodyPost_ret (v := .tuple #[.slice A8 of.length c8, .int .i64 130]) (by simp [results, Tryz.results52, go_sem]) rfl ?_
  rw [Hf.out]
  exact ⟨_, rfl, own_base hown8 hs7, RDAp.end_ hI0 T7 hb8 hown8⟩
end Go.Proofs.YtbkkfkbgcklkgaaGreat
/- A device is asked for a session; its signature comes back. -/
namespace Go.Proofs.YtbkkfkbgcklkgaaGreat
open Go.RowKit
set_option maxHeartbeats 10000000
set_option maxRecDepth 100000

theorem DevAns.of {B : Nat} {w w1 : World} {a mb : Nat} {m1 m : DevM} {F : Nat → Prop} {r : DevM × List UInt8 × Int} {e : Ending} {w' : World} (hI : DevIs B w a mb m F) (t : DevTo B w a mb m1 F w1) (h : DevAns B w1 a mb (grow F w w1) r e w') : DevAns B w a mb F r e w' := by
  obtain ⟨x, he, ho, t2⟩ := h
  exact ⟨x, he, own_base ho t.keep.size, DevAp.trans hI t t2⟩
theorem devS5 {w : World} {a mb c d v g u : Nat} {m : DevM} {val : Value} {x0 x1 x2 x3 x4 x5 : Value} (h : Blk w a 109 (devCells m mb c d v g val)) (hu : Blk w u 68 #[x0, x1, x2, x3, x4, x5]) :
    w.cell? ⟨a, 0, none⟩ = some (.int .u32 m.p.code) ∧ w.cell? ⟨a, 1, none⟩ = some (.int .i64 m.p.out) ∧ w.cell? ⟨a, 2, none⟩ = some (.int .i64 m.p.inn) ∧ w.cell? ⟨a, 3, none⟩ = some (.int .i64 m.p.watch) ∧ w.cell? ⟨a, 4, none⟩ = some (.int .u32 m.p.count) ∧ w.cell? ⟨u, 5, none⟩ = some x5 :=
  ⟨(h.cell 0).trans rfl, (h.cell 1).trans rfl, (h.cell 2).trans rfl, (h.cell 3).trans rfl, (h.cell 4).trans rfl, (hu.cell 5).trans rfl⟩
theorem devAsked_any (B a mb : Nat) (m : DevM) (F : Nat → Prop) (kind code session number flags : Int) (data : List UInt8) (A : Option Addr) (cA Br : Nat) (w : World) (hI : DevIs B w a mb m F) (hi : m.Inv) (hlen : m.log.length < 1073741800) (hr : Reads w Br 1 A data.length (u8c data)) (hB : Br ≤ w.heap.size) (hd : data.length ≤ 1000) :
    Calls Tryz.prog 133 #[.pointer (some ⟨a, 0, none⟩), .agg #[.int .i64 kind, .int .u32 code, .int .u32 session, .int .u32 number, .int .i64 flags, .slice A data.length cA]] w fun e w' => DevAns B w a mb F (if data = m.p.sign then m.wish else m.odds 91) e w' := by
  have hI0 := hI
  obtain ⟨⟨κ, c, d, v, g, val, hH, hF⟩, hlo⟩ := hI
  have hU0 := Blk.new w 68 #[.int .i64 kind, .int .u32 code, .int .u32 session, .int .u32 number, .int .i64 flags, .slice A data.length cA]
  have hb1 : Below w.heap.size w (w.alloc (.cells #[.int .i64 kind, .int .u32 code, .int .u32 session, .int .u32 number, .int .i64 flags, .slice A data.length cA] 68)).drew := ((Below.refl _ _).alloc (Nat.le_refl _) _).drew
  have hmat := paramMatch_any m.p A data.length cA Br data _ hi.pok hi.plaw (hr.below (hb1.mono hB)) (Nat.le_trans hB hb1.size) hd
  unfold parVal at hmat
  have hI1 := hI0.below hb1
  have h1 := hH.below hb1
  have hbA := h1.blk
  have hU := hU0.drew
  obtain ⟨q, Hq⟩ : ∃ q, Hid (q = if data = m.p.sign then m.wish else m.odds 91) := ⟨_, Lib.hid rfl⟩
  rw [← Hq.out]
  have hs1 := hb1.size
  go_enter Tryz.func133, Tryz.ntmps133
  go_upto_region 1 with fail
  obtain ⟨u, Hu⟩ : ∃ u, Hid (u = w.heap.size) := ⟨_, Lib.hid rfl⟩
  rw [← Hu.out] at hU ⊢
  go_wp2_with fail
  generalize w.alloc (.cells #[.int .i64 kind, .int .u32 code, .int .u32 session, .int .u32 number, .int .i64 flags, .slice A data.length cA] 68) = W0 at *
  have hul := hU.lt
  have hal := hbA.lt
  go_region_held3 (fun w' => w'.cell? ⟨a, 0, none⟩ = some (.int .u32 m.p.code) ∧ w'.cell? ⟨a, 1, none⟩ = some (.int .i64 m.p.out) ∧ w'.cell? ⟨a, 2, none⟩ = some (.int .i64 m.p.inn) ∧ w'.cell? ⟨a, 3, none⟩ = some (.int .i64 m.p.watch) ∧ w'.cell? ⟨a, 4, none⟩ = some (.int .u32 m.p.count) ∧ w'.cell? ⟨u, 5, none⟩ = some (.slice A data.length cA)) (with_reducible (first | exact devS5 hbA hU)) (first
    | (go_at_call 161; refine hmat.mono ?_; rintro e W2 ⟨rfl, hbm⟩; replace hbA := hbA.below hbm hal; replace hU := hU.below hbm hul))
  have hb2 : Below w.heap.size w W2 := hb1.trans (hbm.mono hs1)
  have t2 : DevTo B w a mb m F W2 := .ofBelow hI0 hb2
  have hc := hbA.cell
  unfold devCells at hc
  have hs2 := hb2.size
  clear hmat hbA hU hul hal hbm h1 hI1 hb1 hs1
  by_cases hds : data = m.p.sign
  · have hq : q = m.wish := by rw [Hq.out, if_pos hds]
    rw [decide_eq_true hds]
    clear Hq hds hr
    by_cases hbz : m.state = 2 ∨ m.state = 3 ∨ m.state = 4
    · have hbu : m.busy = true := by unfold DevM.busy; simpa using hbz
      have hw : q = if m.strange.2 then m.strange.1.begin_ else if m.strange.1.state = 2 then (m.strange.1, m.strange.1.offer, 130) else (m.strange.1, m.strange.1.none, 130) := by rw [hq]; unfold DevM.wish; rw [if_pos hbu]
      have hst := devStuck_any B a mb m _ W2 t2.is_ hi (by omega)
      have hsl := strange_log m
      have hsi := hi.strange
      clear hq hbu
      generalize m.strange = k at *
      obtain ⟨k, b⟩ := k
      simp only at hst hsl hsi
      cases b with
      | true =>
        simp only [if_true] at hw
        have hbeg := fun W3 hI => devBegin_any B a mb k (grow F w W3) W3 hI hsi (by omega)
        rw [← hw] at hbeg
        clear hw
        rcases hbz with hs | hs | hs
        all_goals
          rw [hs] at hc
          go_wp2_with (go_at_call 162; refine hst.mono ?_; rintro e W3 ⟨rfl, t3⟩)
          have t23 := DevTo.trans hI0 t2 t3
          refine (hbeg W3 t23.is_).mono ?_
          rintro e W4 h4
          have h5 := DevAns.of hI0 t23 h4
          obtain ⟨x5, rfl, ho5, t5⟩ := h5
          obtain ⟨A5, c5, rfl⟩ := own_slice ho5
          go_wp2_with fail
          refine bodyPost_ret (v := .tuple #[.slice A5 q.2.1.length c5, .int .i64 q.2.2]) (by simp [results, Tryz.results133, go_sem]) rfl ⟨_, rfl, ho5, t5⟩
      | false =>
        simp only [Bool.false_eq_true, if_false] at hw
        by_cases hk2 : k.state = 2
        · rw [if_pos hk2] at hw
          obtain ⟨of, Hof⟩ : ∃ of, Hid (of = k.offer) := ⟨_, Lib.hid rfl⟩
          rw [← Hof.out] at hw
          subst hw
          rcases hbz with hs | hs | hs
          all_goals
            rw [hs] at hc
            go_wp2_with (go_at_call 162; refine hst.mono ?_; rintro e W3 ⟨rfl, t3⟩; obtain ⟨⟨κ3, c3, d3, v3, g3, val3, h3, hF3⟩, hlo3⟩ := t3.is_; have hc3 := h3.blk.cell; unfold devCells at hc3; rw [hk2] at hc3)
            have t23 := DevTo.trans hI0 t2 t3
            have hoff := devOffer_any B a mb k _ W3 t23.is_ hsi
            rw [← Hof.out] at hoff
            refine hoff.mono ?_
            rintro e W4 ⟨x4, rfl, hown4, hb4⟩
            obtain ⟨A4, c4, rfl⟩ := own_slice hown4
            go_wp2_with fail
            have hs3 := t23.keep.size
            refine bodyPost_ret (v := .tuple #[.slice A4 of.length c4, .int .i64 130]) (by simp [results, Tryz.results133, go_sem]) rfl ⟨_, rfl, own_base hown4 hs3, DevAp.end_ hI0 t23 hb4 hown4⟩
        · rw [if_neg hk2] at hw
          have gk2 : (k.state == 2) = false := by simpa using hk2
          obtain ⟨of, Hof⟩ : ∃ of, Hid (of = k.none) := ⟨_, Lib.hid rfl⟩
          rw [← Hof.out] at hw
          subst hw
          rcases hbz with hs | hs | hs
          all_goals
            rw [hs] at hc
            go_wp2_with (go_at_call 162; refine hst.mono ?_; rintro e W3 ⟨rfl, t3⟩; obtain ⟨⟨κ3, c3, d3, v3, g3, val3, h3, hF3⟩, hlo3⟩ := t3.is_; have hc3 := h3.blk.cell; unfold devCells at hc3)
            have t23 := DevTo.trans hI0 t2 t3
            have hoff := devNone_any B a mb k _ 22 0 W3 t23.is_ hsi (by omega) (by decide)
            rw [show k.frame 22 0 0 [] = of from Hof.out.symm] at hoff
            refine hoff.mono ?_
            rintro e W4 ⟨x4, rfl, hown4, hb4⟩
            obtain ⟨A4, c4, rfl⟩ := own_slice hown4
            go_wp2_with fail
            have hs3 := t23.keep.size
            refine bodyPost_ret (v := .tuple #[.slice A4 of.length c4, .int .i64 130]) (by simp [results, Tryz.results133, go_sem]) rfl ⟨_, rfl, own_base hown4 hs3, DevAp.end_ hI0 t23 hb4 hown4⟩
    · have hbu : m.busy = false := by unfold DevM.busy; simpa using hbz
      have e1 : m.wish = m.begin_ := by unfold DevM.wish; simp [hbu]
      rw [e1] at hq
      have g2 : (m.state == 2) = false := by simp; omega
      have g3 : (m.state == 3) = false := by simp; omega
      have g4 : (m.state == 4) = false := by simp; omega
      have hbeg := devBegin_any B a mb m _ W2 t2.is_ hi (by omega)
      rw [← hq] at hbeg
      clear hbu hbz e1 hq
      go_wp2_with fail
      refine hbeg.mono ?_
      rintro e W4 h4
      have h5 := DevAns.of hI0 t2 h4
      obtain ⟨x5, rfl, ho5, t5⟩ := h5
      obtain ⟨A5, c5, rfl⟩ := own_slice ho5
      go_wp2_with fail
      refine bodyPost_ret (v := .tuple #[.slice A5 q.2.1.length c5, .int .i64 q.2.2]) (by simp [results, Tryz.results133, go_sem]) rfl ⟨_, rfl, ho5, t5⟩
  · have hq : q = m.odds 91 := by rw [Hq.out, if_neg hds]
    rw [decide_eq_false hds]
    clear hds hr Hq
    have hod := devOdds_any B a mb m _ 91 W2 t2.is_ hi (by omega)
    rw [← hq] at hod
    clear hq
    go_wp2_with fail
    refine hod.mono ?_
    rintro e W4 h4
    have h5 := DevAns.of hI0 t2 h4
    obtain ⟨x5, rfl, ho5, t5⟩ := h5
    obtain ⟨A5, c5, rfl⟩ := own_slice ho5
    go_wp2_with fail
    refine bodyPost_ret (v := .tuple #[.slice A5 q.2.1.length c5, .int .i64 q.2.2]) (by simp [results, Tryz.results133, go_sem]) rfl ⟨_, rfl, ho5, t5⟩
theorem devEchoed_any (B a mb : Nat) (m : DevM) (F : Nat → Prop) (kind code session number flags : Int) (data : List UInt8) (A : Option Addr) (cA Br : Nat) (w : World) (hI : DevIs B w a mb m F) (hi : m.Inv) (hlen : m.log.length < 1073741800) (hr : Reads w Br 1 A data.length (u8c data)) (hB : Br ≤ w.heap.size) (hd : data.length ≤ 1000) :
    Calls Tryz.prog 134 #[.pointer (some ⟨a, 0, none⟩), .agg #[.int .i64 kind, .int .u32 code, .int .u32 session, .int .u32 number, .int .i64 flags, .slice A data.length cA]] w fun e w' => DevAns B w a mb F (if data ≠ m.p.sign then m.odds 91 else ((if m.state = 2 then ({ m with state := 3 } : DevM).alive else m), (if m.state = 2 then ({ m with state := 3 } : DevM).alive else m).frame 18 0 0 [], 0)) e w' := by
  have hI0 := hI
  obtain ⟨⟨κ, c, d, v, g, val, hH, hF⟩, hlo⟩ := hI
  have hU0 := Blk.new w 68 #[.int .i64 kind, .int .u32 code, .int .u32 session, .int .u32 number, .int .i64 flags, .slice A data.length cA]
  have hb1 : Below w.heap.size w (w.alloc (.cells #[.int .i64 kind, .int .u32 code, .int .u32 session, .int .u32 number, .int .i64 flags, .slice A data.length cA] 68)).drew := ((Below.refl _ _).alloc (Nat.le_refl _) _).drew
  have hmat := paramMatch_any m.p A data.length cA Br data _ hi.pok hi.plaw (hr.below (hb1.mono hB)) (Nat.le_trans hB hb1.size) hd
  unfold parVal at hmat
  have hI1 := hI0.below hb1
  have h1 := hH.below hb1
  have hbA := h1.blk
  have hU := hU0.drew
  obtain ⟨q, Hq⟩ : ∃ q, Hid (q = if data ≠ m.p.sign then m.odds 91 else ((if m.state = 2 then ({ m with state := 3 } : DevM).alive else m), (if m.state = 2 then ({ m with state := 3 } : DevM).alive else m).frame 18 0 0 [], 0)) := ⟨_, Lib.hid rfl⟩
  rw [← Hq.out]
  have hs1 := hb1.size
  go_enter Tryz.func134, Tryz.ntmps134
  go_upto_region 1 with fail
  obtain ⟨u, Hu⟩ : ∃ u, Hid (u = w.heap.size) := ⟨_, Lib.hid rfl⟩
  rw [← Hu.out] at hU ⊢
  go_wp2_with fail
  generalize w.alloc (.cells #[.int .i64 kind, .int .u32 code, .int .u32 session, .int .u32 number, .int .i64 flags, .slice A data.length cA] 68) = W0 at *
  have hul := hU.lt
  have hal := hbA.lt
  go_region_held3 (fun w' => w'.cell? ⟨a, 0, none⟩ = some (.int .u32 m.p.code) ∧ w'.cell? ⟨a, 1, none⟩ = some (.int .i64 m.p.out) ∧ w'.cell? ⟨a, 2, none⟩ = some (.int .i64 m.p.inn) ∧ w'.cell? ⟨a, 3, none⟩ = some (.int .i64 m.p.watch) ∧ w'.cell? ⟨a, 4, none⟩ = some (.int .u32 m.p.count) ∧ w'.cell? ⟨u, 5, none⟩ = some (.slice A data.length cA)) (with_reducible (first | exact devS5 hbA hU)) (first
    | (go_at_call 161; refine hmat.mono ?_; rintro e W2 ⟨rfl, hbm⟩; replace hbA := hbA.below hbm hal; replace hU := hU.below hbm hul))
  have hb2 : Below w.heap.size w W2 := hb1.trans (hbm.mono hs1)
  have t2 : DevTo B w a mb m F W2 := .ofBelow hI0 hb2
  have hH2 : DevAt B W2 a mb m κ c d v g val := hH.below hb2
  have hc := hbA.cell
  have hf := hbA.frozen
  have hs2 := hb2.size
  by_cases hds : data = m.p.sign
  · rw [decide_eq_true hds]
    clear hmat hU hul hal hbm h1 hI1 hb1 hs1
    by_cases hs : m.state = 2
    · have hq : q = (({ m with state := 3 } : DevM).alive, (({ m with state := 3 } : DevM).alive).frame 18 0 0 [], 0) := by rw [Hq.out, if_neg (by simpa using hds), if_pos hs]
      have hki := (hi.toSt 3 (by omega)).alive
      obtain ⟨of, Hof⟩ : ∃ of, Hid (of = ((({ m with state := 3 } : DevM).alive)).frame 18 0 0 []) := ⟨_, Lib.hid rfl⟩
      rw [← Hof.out] at hq
      subst hq
      clear Hq hds hr
      have hset : Blk (W2.setCell ⟨a, 11, none⟩ (.int .i64 3)) a 109 (devCells { m with state := 3 } mb c d v g val) := by simpa [devCells] using hbA.set_ 11 (.int .i64 3)
      have tA := hH2.toUpd t2.is_ (fun x hx => .inl (hF x hx)) (keepA W2) (by simp [World.setCell]) hset rfl rfl rfl rfl rfl rfl rfl
      have t12 := DevTo.trans hI0 t2 tA
      unfold devCells at hc
      rw [hs] at hc
      go_wp2_with fail
      refine (devAlive_any B a mb { m with state := 3 } _ _ t12.is_).mono ?_
      rintro e W3 ⟨rfl, t3⟩
      have t13 := DevTo.trans hI0 t12 t3
      have hrep := devNone_any B a mb _ _ 18 0 W3 t13.is_ hki (by omega) (by decide)
      rw [← Hof.out] at hrep
      go_wp2_with fail
      refine hrep.mono ?_
      rintro e W4 ⟨x4, rfl, hown4, hb4⟩
      obtain ⟨A4, c4, rfl⟩ := own_slice hown4
      go_wp2_with fail
      have hs3 := t13.keep.size
      refine bodyPost_ret (v := .tuple #[.slice A4 of.length c4, .int .i64 0]) (by simp [results, Tryz.results134, go_sem]) rfl ⟨_, rfl, own_base hown4 hs3, DevAp.end_ hI0 t13 hb4 hown4⟩
    · have hq : q = (m, m.frame 18 0 0 [], 0) := by rw [Hq.out, if_neg (by simpa using hds), if_neg hs]
      have gs : (m.state == 2) = false := by simpa using hs
      obtain ⟨of, Hof⟩ : ∃ of, Hid (of = m.frame 18 0 0 []) := ⟨_, Lib.hid rfl⟩
      rw [← Hof.out] at hq
      subst hq
      clear Hq hds hr
      have hrep := devNone_any B a mb _ _ 18 0 W2 t2.is_ hi (by omega) (by decide)
      rw [← Hof.out] at hrep
      unfold devCells at hc
      go_wp2_with fail
      refine hrep.mono ?_
      rintro e W4 ⟨x4, rfl, hown4, hb4⟩
      obtain ⟨A4, c4, rfl⟩ := own_slice hown4
      go_wp2_with fail
      refine bodyPost_ret (v := .tuple #[.slice A4 of.length c4, .int .i64 0]) (by simp [results, Tryz.results134, go_sem]) rfl ⟨_, rfl, own_base hown4 hs2, DevAp.end_ hI0 t2 hb4 hown4⟩
  · have hq : q = m.odds 91 := by rw [Hq.out, if_pos hds]
    rw [decide_eq_false hds]
    clear hds hr Hq
    have hod := devOdds_any B a mb m _ 91 W2 t2.is_ hi (by omega)
    rw [← hq] at hod
    clear hq hmat hU hul hal hbm h1 hI1 hb1 hs1
    go_wp2_with fail
    refine hod.mono ?_
    rintro e W4 h4
    have h5 := DevAns.of hI0 t2 h4
    obtain ⟨x5, rfl, ho5, t5⟩ := h5
    obtain ⟨A5, c5, rfl⟩ := own_slice ho5
    go_wp2_with fail
    refine bodyPost_ret (v := .tuple #[.slice A5 q.2.1.length c5, .int .i64 q.2.2]) (by simp [results, Tryz.results134, go_sem]) rfl ⟨_, rfl, ho5, t5⟩
end Go.Proofs.YtbkkfkbgcklkgaaGreat
