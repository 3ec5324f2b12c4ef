/- The base of the laws, part 23: contracts and plain lemmas, no statement. -/
import Derived.Test.YtlldgfejcjnpkaaGreatBase19
set_option linter.unusedVariables false
/- The reference's device takes a unit: kind 3. -/
namespace Go.Proofs.YtlldgfejcjnpkaaGreat
open Go.RowKit
set_option maxHeartbeats 10000000
set_option maxRecDepth 100000
theorem rdUnit_3 (B b mb : Nat) (m : DevM) (F : Nat → Prop) (kind code session number flags : Int) (data : List UInt8) (A : Option Addr) (c Br : Nat) (w : World) (hk : kind = 3) (h : RDTake B w b mb m F ⟨kind, code, session, number, flags, data⟩ A Br) :
    Calls Tryz.prog 58 #[.pointer (some ⟨b, 0, none⟩), unitVal ⟨kind, code, session, number, flags, data⟩ (.slice A data.length c)] w fun e w' => RDAns B w b mb F (m.take ⟨kind, code, session, number, flags, data⟩) e w' := by
  subst hk
  have hI0 := h.is_
  have hi := h.inv
  have hlen := h.len
  have hrd := h.rd
  have hrb := h.rb
  have hd8 := h.d8
  have haf := h.af
  have hok := h.ok
  simp only at hrd hd8
  obtain ⟨q, Hq⟩ : ∃ q, Hid (q = m.take ⟨3, code, session, number, flags, data⟩) := ⟨_, Lib.hid rfl⟩
  rw [← Hq.out]
  obtain ⟨⟨κ, Al, cl, vv, val, cb, hH, hF⟩, hlo⟩ := h.is_
  have hb0 : Below w.heap.size w (w.alloc (.cells #[.int .i64 3, .int .u32 code, .int .u32 session, .int .u32 number, .int .i64 flags, .slice A data.length c] 64)) := (Below.refl _ _).alloc (Nat.le_refl _) _
  have hA1 := hH.below hb0
  have hU1 := Blk.new w 64 #[.int .i64 3, .int .u32 code, .int .u32 session, .int .u32 number, .int .i64 flags, .slice A data.length c]
  have hua : w.heap.size ≠ b := by have := (hH.inF hH.kb).2; omega
  have huF : ∀ x, F x → x ≠ w.heap.size := fun x hx e => by have := (hlo x hx).2; omega
  obtain ⟨u0, Hu0⟩ : ∃ e, Hid (e = w.heap.size) := ⟨_, Lib.hid rfl⟩
  have hsg := fun W => r9sign_any m.p W hi.pok hi.plaw
  unfold parVal at hsg
  obtain ⟨sg, Hsg⟩ : ∃ x, Hid (x = m.p.sign) := ⟨_, Lib.hid rfl⟩
  rw [← Hsg.out] at hsg
  clear h
  unfold RDAns
  unfold unitVal
  simp only
  go_enter Tryz.func58, Tryz.ntmps58
  go_upto_region 1 with fail
  rw [← Hu0.out] at hU1 hua huF ⊢
  generalize w.alloc (.cells _ 64) = W1 at *
  have huc := hU1.cell
  have hr1 := hrd.below (hb0.mono hrb)
  have hs1 := hb0.size
  have hA2 := hA1.drew
  have hU2 := hU1.drew
  have hb2 := hb0.drew
  have hr2 := hr1.drew
  have hbH := hA2.blk
  have hB2 : Br ≤ W1.drew.heap.size := by show Br ≤ W1.heap.size; omega
  go_wp2_with fail
  go_region_held (fun w' => w'.cell? ⟨b, 0, none⟩ = some (.int .u32 m.p.code) ∧ w'.cell? ⟨b, 1, none⟩ = some (.int .i64 m.p.out) ∧ w'.cell? ⟨b, 2, none⟩ = some (.int .i64 m.p.inn) ∧ w'.cell? ⟨b, 3, none⟩ = some (.int .i64 m.p.watch) ∧ w'.cell? ⟨b, 4, none⟩ = some (.int .u32 m.p.count) ∧ w'.cell? ⟨u0, 5, none⟩ = some (.slice A data.length c) ∧ (convert 22 9 (.slice A data.length c)).run Tryz.prog w' = .ok (.string ⟨data.toArray⟩) w') (exact rdS5 hbH hU2 hr2) (first
    | (go_at_call 45; refine (hsg _).mono ?_; rintro e W3 ⟨v3, rfl, hown3, hb3⟩; obtain ⟨A3, c3, hv3⟩ := own_slice hown3; subst hv3; have hcv := conv_reads (c := c3) (Reads.of_own hown3); replace hA2 := hA2.below hb3; clear hbH; have hbH := hA2.blk; replace hU2 := hU2.below hb3 hU2.lt; replace hr2 := hr2.below (hb3.mono hB2); replace hb2 := hb2.trans (hb3.mono hb2.size)))
  clear huc hcv hA1 hU1 hr1
  obtain ⟨sgb, Hsgb⟩ : ∃ x, Hid (x = (data == sg)) := ⟨_, Lib.hid rfl⟩
  rw [← Hsgb.out]
  clear hbH
  have hc := hA2.blk.cell
  unfold rdCells at hc
  have huc := hU2.cell
  go_wp2_with fail
  go_big_quiet (fail)
  have hA3 := hA2.below (belowN (Below.refl _ W3) nq)
  have hU3 := hU2.drewN nq
  have hb3 := belowN hb2 nq
  have hr3 := hr2.drewN nq
  generalize W3.drewN nq = W4 at *
  clear hc huc hA2 hU2 hb2 hr2
  have hc := hA3.blk.cell
  unfold rdCells at hc
  have huc := hU3.cell
  obtain ⟨mi, Hmi⟩ : ∃ x, Hid (x = (session == m.session)) := ⟨_, Lib.hid rfl⟩
  rw [← Hmi.out]
  go_upto_region 3 with fail
  go_cut [8] (fun v8 wc => v8 = .bool (mi && (m.state == 4) && decide (m.number < number)) ∧ ∃ n, wc = W4.drewN n)
  case first =>
    cases mi
    · go_big_quiet (fail)
      go_wp2_with fail
      go_meet
      exact ⟨rfl, _, rfl⟩
    · by_cases h4 : m.state = 4
      · rw [h4] at hc
        go_big_quiet (fail)
        go_wp2_with fail
        go_meet
        exact ⟨by rw [h4]; rfl, _, rfl⟩
      · have g4 : (m.state == 4) = false := by simpa using h4
        go_big_quiet (fail)
        go_wp2_with fail
        go_meet
        exact ⟨by rw [g4]; rfl, _, rfl⟩
  case rest =>
  obtain ⟨rfl, nq, rfl⟩ := hcut
  obtain ⟨mo, Hmo⟩ : ∃ x, Hid (x = (mi && (m.state == 4) && decide (m.number < number))) := ⟨_, Lib.hid rfl⟩
  rw [← Hmo.out]
  have hA4 := hA3.below (belowN (Below.refl _ W4) nq)
  have hU4 := hU3.drewN nq
  have hb4 := belowN hb3 nq
  have hr4 := hr3.drewN nq
  generalize W4.drewN nq = W5 at *
  clear hc huc hA3 hU3 hb3 hr3
  have hc := hA4.blk.cell
  unfold rdCells at hc
  have huc := hU4.cell
  have hs0 : w.heap.size ≤ W5.heap.size := hb4.size
  have Hsd : Hid (sgb = true ↔ data = m.p.sign) := Lib.hid (by rw [Hsgb.out, ← Hsg.out]; simp)
  have Hms : Hid (mi = true ↔ session = m.session) := Lib.hid (by rw [Hmi.out]; simp)
  have Hmm : Hid (mo = true ↔ mi = true ∧ m.state = 4 ∧ m.number < number) := Lib.hid (by rw [Hmo.out]; simp [and_assoc])
  clear Hsgb Hmi Hmo hsg
  have hd8' : data.length ≤ 1000000 := by omega
  have hstr := fun (M : DevM) (G : Nat → Prop) W hW hi hl => rdStrange_any B b mb M G W hW hi hl
  cases mi
  case false =>
    have hq0 : q = m.odds 130 := by rw [Hq.out]; unfold DevM.take; rw [if_neg (by simp), if_neg (by dsimp only; omega), if_neg (fun h => by have := Hms.out.2 h.2.1; simp at this), if_neg (by dsimp only; omega), if_neg (by dsimp only; omega)]
    clear Hq
    go_wp2_with fail
    go_big_quiet (fail)
    have hA5 := hA4.below (belowN (Below.refl _ W5) nq)
    have hU5 := hU4.drewN nq
    have hb5 := belowN hb4 nq
    have hr5 := hr4.drewN nq
    generalize W5.drewN nq = W6 at *
    clear hc huc hA4 hU4 hb4 hr4
    have hc := hA5.blk.cell
    unfold rdCells at hc
    have huc := hU5.cell
    go_wp2_with fail
    go_big_quiet (fail)
    have hA6 := hA5.below (belowN (Below.refl _ W6) nq)
    have hU6 := hU5.drewN nq
    have hb6 := belowN hb5 nq
    have hr6 := hr5.drewN nq
    generalize W6.drewN nq = W6b at *
    clear hc huc hA5 hU5 hb5 hr5
    have hc := hA6.blk.cell
    unfold rdCells at hc
    have huc := hU6.cell
    go_wp2_with fail
    have tW := hA6.toIs hI0 (fun x hx => .inl (hF x hx)) (Keep.of_below hb6)
    have hst := rdStrange_any B b mb m _ _ tW.is_ hi (by omega)
    have hqi := hi.strange
    have hq : q = (m.strange.1, m.strange.1.none, 130) := hq0
    generalize m.strange = st at *
    obtain ⟨ko, ov⟩ := st
    simp only at hst hqi hq
    obtain ⟨of, Hof⟩ : ∃ of, Hid (of = ko.none) := ⟨_, Lib.hid rfl⟩
    have Hf : Hid (q = (ko, of, 130)) := Lib.hid (by rw [Hof.out]; exact hq)
    clear hq hq0
    refine hst.mono ?_
    rintro e W7 ⟨rfl, t7⟩
    have T7 := RDTo.trans hI0 tW t7
    have hs7 := T7.keep.size
    have hno := rdNone_any B b mb ko _ W7 T7.is_ hqi
    rw [← Hof.out] at hno
    clear hc huc hst t7 tW
    go_wp2_with fail
    refine hno.mono ?_
    rintro e W8 ⟨v8, rfl, hown8, hb8⟩
    obtain ⟨A8, c8, rfl⟩ := own_slice hown8
    go_wp2_with fail
    refine bodyPost_ret (v := .tuple #[.slice A8 of.length c8, .int .i64 130]) (by simp [results, Tryz.results58, go_sem]) rfl ?_
    rw [Hf.out]
    exact ⟨_, rfl, own_base hown8 hs7, RDAp.end_ hI0 T7 hb8 hown8⟩
  case true =>
    by_cases hs : m.state = 3
    ·
      have hq : q = ((({ m with state := 4 } : DevM).run true).alive, ((({ m with state := 4 } : DevM).run true).alive).frame 19 0 0 [], 0) := by rw [Hq.out]; unfold DevM.take; rw [if_neg (by simp), if_neg (by dsimp only; omega), if_pos ⟨rfl, Hms.out.1 rfl, by omega⟩]; simp only; rw [if_pos hs]
      obtain ⟨of, Hof⟩ : ∃ of, Hid (of = ((({ m with state := 4 } : DevM).run true).alive).frame 19 0 0 []) := ⟨_, Lib.hid rfl⟩
      have Hf : Hid (q = ((({ m with state := 4 } : DevM).run true).alive, of, 0)) := Lib.hid (by rw [Hof.out]; exact hq)
      clear Hq hq
      rw [hs] at hc
      have hf := hA4.blk.frozen
      have hA6 : RDAt B (W5.setCell ⟨b, 18, none⟩ (.int .i64 4)) b mb { m with state := 4 } κ Al cl vv val cb := hA4.upd (keepB (Keep.refl _ W5)) (by simp [World.setCell]) (by simpa [rdCells] using hA4.blk.set_ 18 (.int .i64 4)) rfl rfl rfl rfl rfl
      have tW := hA4.toIs hI0 (fun x hx => .inl (hF x hx)) (Keep.of_below hb4)
      have hk6 : Keep F w (W5.setCell ⟨b, 18, none⟩ (.int .i64 4)) := (Keep.of_below hb4).setCell (p := ⟨b, 18, none⟩) (fun _ => hI0.Fb) _
      have t6 := hA6.toIs hI0 (fun x hx => .inl (hF x hx)) hk6
      go_wp2_with fail
      clear hc hf huc
      refine (rvRun_any b 11 _ _ _ m.p.out m.valve vv _ true hA6.valveBlk rfl).mono ?_
      rintro e W6 ⟨rfl, hv⟩
      have h6 := hA6.onValve hv (run_val m.valve true vv)
      have t7 : RDTo B w b mb (({ m with state := 4 } : DevM).run true) F W6 := h6.toIs hI0 (fun x hx => .inl (hF x hx)) (hk6.andThen hv.2.1 (fun x _ e => e ▸ hI0.Fb))
      clear hv h6 t6
      go_wp2_with fail
      refine (rdOn_any B b mb _ _ W6 t7.is_ (fr_run hi.fr)).mono ?_
      rintro e W7 ⟨rfl, t8⟩
      have T7 := RDTo.trans hI0 t7 t8
      have hni : ((({ m with state := 4 } : DevM).run true).alive).Inv := ((hi.toSt 4 (by omega)).run true).alive
      have hs7 := T7.keep.size
      have han := rdAnswer_any B b mb ((({ m with state := 4 } : DevM).run true).alive) _ 19 0 0 [] none 0 0 0 _ T7.is_ hni rfl (by omega) Reads.none_ (Nat.zero_le _)
      rw [← Hof.out] at han
      go_wp2_with fail
      refine han.mono ?_
      rintro e W8 ⟨v8, rfl, hown8, hb8⟩
      obtain ⟨A8, c8, rfl⟩ := own_slice hown8
      go_wp2_with fail
      refine bodyPost_ret (v := .tuple #[.slice A8 of.length c8, .int .i64 0]) (by simp [results, Tryz.results58, go_sem]) rfl ?_
      rw [Hf.out]
      exact ⟨_, rfl, own_base hown8 hs7, RDAp.end_ hI0 T7 hb8 hown8⟩
    have h3 := hs
    clear hs
    by_cases hs : m.state = 4
    · by_cases hn : m.number = 0
      ·
        have hq : q = (m, (m).frame 19 0 0 [], 0) := by rw [Hq.out]; unfold DevM.take; rw [if_neg (by simp), if_neg (by dsimp only; omega), if_pos ⟨rfl, Hms.out.1 rfl, by omega⟩]; simp only; rw [if_neg (by omega)]
        obtain ⟨of, Hof⟩ : ∃ of, Hid (of = (m).frame 19 0 0 []) := ⟨_, Lib.hid rfl⟩
        have Hf : Hid (q = (m, of, 0)) := Lib.hid (by rw [Hof.out]; exact hq)
        clear Hq hq
        rw [hs] at hc 
        rw [hn] at hc
        have tW := hA4.toIs hI0 (fun x hx => .inl (hF x hx)) (Keep.of_below hb4)
        have T7 := tW
        have hni := hi
        have hs7 := T7.keep.size
        have han := rdAnswer_any B b mb (m) _ 19 0 0 [] none 0 0 0 _ T7.is_ hni rfl (by omega) Reads.none_ (Nat.zero_le _)
        rw [← Hof.out] at han
        go_wp2_with fail
        refine han.mono ?_
        rintro e W8 ⟨v8, rfl, hown8, hb8⟩
        obtain ⟨A8, c8, rfl⟩ := own_slice hown8
        go_wp2_with fail
        refine bodyPost_ret (v := .tuple #[.slice A8 of.length c8, .int .i64 0]) (by simp [results, Tryz.results58, go_sem]) rfl ?_
        rw [Hf.out]
        exact ⟨_, rfl, own_base hown8 hs7, RDAp.end_ hI0 T7 hb8 hown8⟩
      ·
        have hq0 : q = m.odds 130 := by rw [Hq.out]; unfold DevM.take; rw [if_neg (by simp), if_neg (by dsimp only; omega), if_neg (by dsimp only; omega), if_neg (by dsimp only; omega), if_neg (by dsimp only; omega)]
        clear Hq
        rw [hs] at hc
        have e0 : (m.number == 0) = false := by simpa using hn
        go_wp2_with fail
        go_big_quiet (fail)
        have hA5 := hA4.below (belowN (Below.refl _ W5) nq)
        have hU5 := hU4.drewN nq
        have hb5 := belowN hb4 nq
        have hr5 := hr4.drewN nq
        generalize W5.drewN nq = W6 at *
        clear hc huc hA4 hU4 hb4 hr4
        have hc := hA5.blk.cell
        unfold rdCells at hc
        have huc := hU5.cell
        go_wp2_with fail
        go_big_quiet (fail)
        have hA6 := hA5.below (belowN (Below.refl _ W6) nq)
        have hU6 := hU5.drewN nq
        have hb6 := belowN hb5 nq
        have hr6 := hr5.drewN nq
        generalize W6.drewN nq = W6b at *
        clear hc huc hA5 hU5 hb5 hr5
        have hc := hA6.blk.cell
        unfold rdCells at hc
        have huc := hU6.cell
        go_wp2_with fail
        have tW := hA6.toIs hI0 (fun x hx => .inl (hF x hx)) (Keep.of_below hb6)
        have hst := rdStrange_any B b mb m _ _ tW.is_ hi (by omega)
        have hqi := hi.strange
        have hq : q = (m.strange.1, m.strange.1.none, 130) := hq0
        generalize m.strange = st at *
        obtain ⟨ko, ov⟩ := st
        simp only at hst hqi hq
        obtain ⟨of, Hof⟩ : ∃ of, Hid (of = ko.none) := ⟨_, Lib.hid rfl⟩
        have Hf : Hid (q = (ko, of, 130)) := Lib.hid (by rw [Hof.out]; exact hq)
        clear hq hq0
        refine hst.mono ?_
        rintro e W7 ⟨rfl, t7⟩
        have T7 := RDTo.trans hI0 tW t7
        have hs7 := T7.keep.size
        have hno := rdNone_any B b mb ko _ W7 T7.is_ hqi
        rw [← Hof.out] at hno
        clear hc huc hst t7 tW
        go_wp2_with fail
        refine hno.mono ?_
        rintro e W8 ⟨v8, rfl, hown8, hb8⟩
        obtain ⟨A8, c8, rfl⟩ := own_slice hown8
        go_wp2_with fail
        refine bodyPost_ret (v := .tuple #[.slice A8 of.length c8, .int .i64 130]) (by simp [results, Tryz.results58, go_sem]) rfl ?_
        rw [Hf.out]
        exact ⟨_, rfl, own_base hown8 hs7, RDAp.end_ hI0 T7 hb8 hown8⟩
    have h4 := hs
    have hq0 : q = m.odds 130 := by rw [Hq.out]; unfold DevM.take; rw [if_neg (by simp), if_neg (by dsimp only; omega), if_neg (by dsimp only; omega), if_neg (by dsimp only; omega), if_neg (by dsimp only; omega)]
    clear Hq
    have e3 : (m.state == 3) = false := by simpa using h3
    have e4 : (m.state == 4) = false := by simpa using h4
    go_wp2_with fail
    go_big_quiet (fail)
    have hA5 := hA4.below (belowN (Below.refl _ W5) nq)
    have hU5 := hU4.drewN nq
    have hb5 := belowN hb4 nq
    have hr5 := hr4.drewN nq
    generalize W5.drewN nq = W6 at *
    clear hc huc hA4 hU4 hb4 hr4
    have hc := hA5.blk.cell
    unfold rdCells at hc
    have huc := hU5.cell
    go_wp2_with fail
    go_big_quiet (fail)
    have hA6 := hA5.below (belowN (Below.refl _ W6) nq)
    have hU6 := hU5.drewN nq
    have hb6 := belowN hb5 nq
    have hr6 := hr5.drewN nq
    generalize W6.drewN nq = W6b at *
    clear hc huc hA5 hU5 hb5 hr5
    have hc := hA6.blk.cell
    unfold rdCells at hc
    have huc := hU6.cell
    go_wp2_with fail
    have tW := hA6.toIs hI0 (fun x hx => .inl (hF x hx)) (Keep.of_below hb6)
    have hst := rdStrange_any B b mb m _ _ tW.is_ hi (by omega)
    have hqi := hi.strange
    have hq : q = (m.strange.1, m.strange.1.none, 130) := hq0
    generalize m.strange = st at *
    obtain ⟨ko, ov⟩ := st
    simp only at hst hqi hq
    obtain ⟨of, Hof⟩ : ∃ of, Hid (of = ko.none) := ⟨_, Lib.hid rfl⟩
    have Hf : Hid (q = (ko, of, 130)) := Lib.hid (by rw [Hof.out]; exact hq)
    clear hq hq0
    refine hst.mono ?_
    rintro e W7 ⟨rfl, t7⟩
    have T7 := RDTo.trans hI0 tW t7
    have hs7 := T7.keep.size
    have hno := rdNone_any B b mb ko _ W7 T7.is_ hqi
    rw [← Hof.out] at hno
    clear hc huc hst t7 tW
    go_wp2_with fail
    refine hno.mono ?_
    rintro e W8 ⟨v8, rfl, hown8, hb8⟩
    obtain ⟨A8, c8, rfl⟩ := own_slice hown8
    go_wp2_with fail
    refine bodyPost_ret (v := .tuple #[.slice A8 of.length c8, .int .i64 130]) (by simp [results, Tryz.results58, go_sem]) rfl ?_
    rw [Hf.out]
    exact ⟨_, rfl, own_base hown8 hs7, RDAp.end_ hI0 T7 hb8 hown8⟩
end Go.Proofs.YtlldgfejcjnpkaaGreat
/- The reference's device takes a unit: kind 5. -/
namespace Go.Proofs.YtlldgfejcjnpkaaGreat
open Go.RowKit
set_option maxHeartbeats 10000000
set_option maxRecDepth 100000
theorem rdUnit_5 (B b mb : Nat) (m : DevM) (F : Nat → Prop) (kind code session number flags : Int) (data : List UInt8) (A : Option Addr) (c Br : Nat) (w : World) (hk : kind = 5) (h : RDTake B w b mb m F ⟨kind, code, session, number, flags, data⟩ A Br) :
    Calls Tryz.prog 58 #[.pointer (some ⟨b, 0, none⟩), unitVal ⟨kind, code, session, number, flags, data⟩ (.slice A data.length c)] w fun e w' => RDAns B w b mb F (m.take ⟨kind, code, session, number, flags, data⟩) e w' := by
  subst hk
  have hI0 := h.is_
  have hi := h.inv
  have hlen := h.len
  have hrd := h.rd
  have hrb := h.rb
  have hd8 := h.d8
  have haf := h.af
  have hok := h.ok
  simp only at hrd hd8
  obtain ⟨q, Hq⟩ : ∃ q, Hid (q = m.take ⟨5, code, session, number, flags, data⟩) := ⟨_, Lib.hid rfl⟩
  rw [← Hq.out]
  obtain ⟨⟨κ, Al, cl, vv, val, cb, hH, hF⟩, hlo⟩ := h.is_
  have hb0 : Below w.heap.size w (w.alloc (.cells #[.int .i64 5, .int .u32 code, .int .u32 session, .int .u32 number, .int .i64 flags, .slice A data.length c] 64)) := (Below.refl _ _).alloc (Nat.le_refl _) _
  have hA1 := hH.below hb0
  have hU1 := Blk.new w 64 #[.int .i64 5, .int .u32 code, .int .u32 session, .int .u32 number, .int .i64 flags, .slice A data.length c]
  have hua : w.heap.size ≠ b := by have := (hH.inF hH.kb).2; omega
  have huF : ∀ x, F x → x ≠ w.heap.size := fun x hx e => by have := (hlo x hx).2; omega
  obtain ⟨u0, Hu0⟩ : ∃ e, Hid (e = w.heap.size) := ⟨_, Lib.hid rfl⟩
  have hsg := fun W => r9sign_any m.p W hi.pok hi.plaw
  unfold parVal at hsg
  obtain ⟨sg, Hsg⟩ : ∃ x, Hid (x = m.p.sign) := ⟨_, Lib.hid rfl⟩
  rw [← Hsg.out] at hsg
  clear h
  unfold RDAns
  unfold unitVal
  simp only
  go_enter Tryz.func58, Tryz.ntmps58
  go_upto_region 1 with fail
  rw [← Hu0.out] at hU1 hua huF ⊢
  generalize w.alloc (.cells _ 64) = W1 at *
  have huc := hU1.cell
  have hr1 := hrd.below (hb0.mono hrb)
  have hs1 := hb0.size
  have hA2 := hA1.drew
  have hU2 := hU1.drew
  have hb2 := hb0.drew
  have hr2 := hr1.drew
  have hbH := hA2.blk
  have hB2 : Br ≤ W1.drew.heap.size := by show Br ≤ W1.heap.size; omega
  go_wp2_with fail
  go_region_held (fun w' => w'.cell? ⟨b, 0, none⟩ = some (.int .u32 m.p.code) ∧ w'.cell? ⟨b, 1, none⟩ = some (.int .i64 m.p.out) ∧ w'.cell? ⟨b, 2, none⟩ = some (.int .i64 m.p.inn) ∧ w'.cell? ⟨b, 3, none⟩ = some (.int .i64 m.p.watch) ∧ w'.cell? ⟨b, 4, none⟩ = some (.int .u32 m.p.count) ∧ w'.cell? ⟨u0, 5, none⟩ = some (.slice A data.length c) ∧ (convert 22 9 (.slice A data.length c)).run Tryz.prog w' = .ok (.string ⟨data.toArray⟩) w') (exact rdS5 hbH hU2 hr2) (first
    | (go_at_call 45; refine (hsg _).mono ?_; rintro e W3 ⟨v3, rfl, hown3, hb3⟩; obtain ⟨A3, c3, hv3⟩ := own_slice hown3; subst hv3; have hcv := conv_reads (c := c3) (Reads.of_own hown3); replace hA2 := hA2.below hb3; clear hbH; have hbH := hA2.blk; replace hU2 := hU2.below hb3 hU2.lt; replace hr2 := hr2.below (hb3.mono hB2); replace hb2 := hb2.trans (hb3.mono hb2.size)))
  clear huc hcv hA1 hU1 hr1
  obtain ⟨sgb, Hsgb⟩ : ∃ x, Hid (x = (data == sg)) := ⟨_, Lib.hid rfl⟩
  rw [← Hsgb.out]
  clear hbH
  have hc := hA2.blk.cell
  unfold rdCells at hc
  have huc := hU2.cell
  go_wp2_with fail
  go_big_quiet (fail)
  have hA3 := hA2.below (belowN (Below.refl _ W3) nq)
  have hU3 := hU2.drewN nq
  have hb3 := belowN hb2 nq
  have hr3 := hr2.drewN nq
  generalize W3.drewN nq = W4 at *
  clear hc huc hA2 hU2 hb2 hr2
  have hc := hA3.blk.cell
  unfold rdCells at hc
  have huc := hU3.cell
  obtain ⟨mi, Hmi⟩ : ∃ x, Hid (x = (session == m.session)) := ⟨_, Lib.hid rfl⟩
  rw [← Hmi.out]
  go_upto_region 3 with fail
  go_cut [8] (fun v8 wc => v8 = .bool (mi && (m.state == 4) && decide (m.number < number)) ∧ ∃ n, wc = W4.drewN n)
  case first =>
    cases mi
    · go_big_quiet (fail)
      go_wp2_with fail
      go_meet
      exact ⟨rfl, _, rfl⟩
    · by_cases h4 : m.state = 4
      · rw [h4] at hc
        go_big_quiet (fail)
        go_wp2_with fail
        go_meet
        exact ⟨by rw [h4]; rfl, _, rfl⟩
      · have g4 : (m.state == 4) = false := by simpa using h4
        go_big_quiet (fail)
        go_wp2_with fail
        go_meet
        exact ⟨by rw [g4]; rfl, _, rfl⟩
  case rest =>
  obtain ⟨rfl, nq, rfl⟩ := hcut
  obtain ⟨mo, Hmo⟩ : ∃ x, Hid (x = (mi && (m.state == 4) && decide (m.number < number))) := ⟨_, Lib.hid rfl⟩
  rw [← Hmo.out]
  have hA4 := hA3.below (belowN (Below.refl _ W4) nq)
  have hU4 := hU3.drewN nq
  have hb4 := belowN hb3 nq
  have hr4 := hr3.drewN nq
  generalize W4.drewN nq = W5 at *
  clear hc huc hA3 hU3 hb3 hr3
  have hc := hA4.blk.cell
  unfold rdCells at hc
  have huc := hU4.cell
  have hs0 : w.heap.size ≤ W5.heap.size := hb4.size
  have Hsd : Hid (sgb = true ↔ data = m.p.sign) := Lib.hid (by rw [Hsgb.out, ← Hsg.out]; simp)
  have Hms : Hid (mi = true ↔ session = m.session) := Lib.hid (by rw [Hmi.out]; simp)
  have Hmm : Hid (mo = true ↔ mi = true ∧ m.state = 4 ∧ m.number < number) := Lib.hid (by rw [Hmo.out]; simp [and_assoc])
  clear Hsgb Hmi Hmo hsg
  have hd8' : data.length ≤ 1000000 := by omega
  have hstr := fun (M : DevM) (G : Nat → Prop) W hW hi hl => rdStrange_any B b mb M G W hW hi hl
  cases mo
  case false =>
    have hq0 : q = m.odds 130 := by rw [Hq.out]; unfold DevM.take; rw [if_neg (by simp), if_neg (by dsimp only; omega), if_neg (by dsimp only; omega), if_neg (by dsimp only; omega), if_neg (fun h => by have := Hmm.out.2 ⟨Hms.out.2 h.2.2.1, h.2.1, h.2.2.2.1⟩; simp at this)]
    clear Hq
    go_wp2_with fail
    go_big_quiet (fail)
    have hA5 := hA4.below (belowN (Below.refl _ W5) nq)
    have hU5 := hU4.drewN nq
    have hb5 := belowN hb4 nq
    have hr5 := hr4.drewN nq
    generalize W5.drewN nq = W6 at *
    clear hc huc hA4 hU4 hb4 hr4
    have hc := hA5.blk.cell
    unfold rdCells at hc
    have huc := hU5.cell
    go_wp2_with fail
    go_big_quiet (fail)
    have hA6 := hA5.below (belowN (Below.refl _ W6) nq)
    have hU6 := hU5.drewN nq
    have hb6 := belowN hb5 nq
    have hr6 := hr5.drewN nq
    generalize W6.drewN nq = W6b at *
    clear hc huc hA5 hU5 hb5 hr5
    have hc := hA6.blk.cell
    unfold rdCells at hc
    have huc := hU6.cell
    go_wp2_with fail
    have tW := hA6.toIs hI0 (fun x hx => .inl (hF x hx)) (Keep.of_below hb6)
    have hst := rdStrange_any B b mb m _ _ tW.is_ hi (by omega)
    have hqi := hi.strange
    have hq : q = (m.strange.1, m.strange.1.none, 130) := hq0
    generalize m.strange = st at *
    obtain ⟨ko, ov⟩ := st
    simp only at hst hqi hq
    obtain ⟨of, Hof⟩ : ∃ of, Hid (of = ko.none) := ⟨_, Lib.hid rfl⟩
    have Hf : Hid (q = (ko, of, 130)) := Lib.hid (by rw [Hof.out]; exact hq)
    clear hq hq0
    refine hst.mono ?_
    rintro e W7 ⟨rfl, t7⟩
    have T7 := RDTo.trans hI0 tW t7
    have hs7 := T7.keep.size
    have hno := rdNone_any B b mb ko _ W7 T7.is_ hqi
    rw [← Hof.out] at hno
    clear hc huc hst t7 tW
    go_wp2_with fail
    refine hno.mono ?_
    rintro e W8 ⟨v8, rfl, hown8, hb8⟩
    obtain ⟨A8, c8, rfl⟩ := own_slice hown8
    go_wp2_with fail
    refine bodyPost_ret (v := .tuple #[.slice A8 of.length c8, .int .i64 130]) (by simp [results, Tryz.results58, go_sem]) rfl ?_
    rw [Hf.out]
    exact ⟨_, rfl, own_base hown8 hs7, RDAp.end_ hI0 T7 hb8 hown8⟩
  case true =>
    by_cases hn : number = m.p.count
    ·
      have hmm := Hmm.out.1 rfl
      have hse : session = m.session := Hms.out.1 hmm.1
      have hst4 := hmm.2.1
      have hlt4 := hmm.2.2
      obtain ⟨m6, Hm6⟩ : ∃ x, Hid (x = (({ m with number := number } : DevM).alive).trip 80) := ⟨_, Lib.hid rfl⟩
      obtain ⟨m9, Hm9⟩ : ∃ x : DevM, Hid (x = { ({ m6 with sent := m.p.count } : DevM).run false with state := 5 }) := ⟨_, Lib.hid rfl⟩
      have hq : q = (m9, m9.frame 21 m.p.count 0 [], 0) := by
        rw [Hq.out, Hm9.out, Hm6.out]; unfold DevM.take
        rw [if_neg (by simp), if_neg (by dsimp only; omega), if_neg (by dsimp only; omega), if_neg (by dsimp only; omega), if_pos ⟨rfl, hst4, hse, hlt4, hn⟩]
        rfl
      obtain ⟨of, Hof⟩ : ∃ of, Hid (of = m9.frame 21 m.p.count 0 []) := ⟨_, Lib.hid rfl⟩
      have Hf : Hid (q = (m9, of, 0)) := Lib.hid (by rw [Hof.out]; exact hq)
      have h9i : m9.Inv := by
        have h1 := hi.take (u := ⟨5, code, session, number, flags, data⟩) hok.number
        rw [← Hq.out, hq] at h1
        exact h1
      have hp6 : m6.p = m.p := by rw [Hm6.out]; rfl
      clear hq Hq
      have e0 : (number == m.p.count) = true := by simpa using hn
      have Hn := Lib.hid hn
      clear hn
      go_wp2_with fail
      go_big_quiet (fail)
      have hA5 := hA4.below (belowN (Below.refl _ W5) nq)
      have hU5 := hU4.drewN nq
      have hb5 := belowN hb4 nq
      have hr5 := hr4.drewN nq
      generalize W5.drewN nq = W6 at *
      clear hc huc hA4 hU4 hb4 hr4
      have hc := hA5.blk.cell
      unfold rdCells at hc
      have huc := hU5.cell
      go_wp2_with fail
      go_big_quiet (fail)
      have hA6 := hA5.below (belowN (Below.refl _ W6) nq)
      have hU6 := hU5.drewN nq
      have hb6 := belowN hb5 nq
      have hr6 := hr5.drewN nq
      generalize W6.drewN nq = W6b at *
      clear hc huc hA5 hU5 hb5 hr5
      have hc := hA6.blk.cell
      unfold rdCells at hc
      have huc := hU6.cell
      have hf := hA6.blk.frozen
      have hA7 : RDAt B (W6b.setCell ⟨b, 20, none⟩ (.int .u32 number)) b mb { m with number := number } κ Al cl vv val cb := hA6.upd (keepB (Keep.refl _ W6b)) (by simp [World.setCell]) (by simpa [rdCells] using hA6.blk.set_ 20 (.int .u32 number)) rfl rfl rfl rfl rfl
      have hk7 : Keep F w (W6b.setCell ⟨b, 20, none⟩ (.int .u32 number)) := (Keep.of_below hb6).setCell (p := ⟨b, 20, none⟩) (fun _ => hI0.Fb) _
      have t7 := hA7.toIs hI0 (fun x hx => .inl (hF x hx)) hk7
      go_wp2_with fail
      clear hc hf huc
      refine (rdOn_any B b mb _ _ _ t7.is_ hi.fr).mono ?_
      rintro e W8 ⟨rfl, t8⟩
      have T8 := RDTo.trans hI0 t7 t8
      clear t8 hA7 hk7
      go_wp2_with fail
      refine (rdLatch_any B b mb _ _ 80 W8 (by decide) T8.is_ (by simp only [DevM.alive]; omega)).mono ?_
      rintro e W9 ⟨rfl, t9⟩
      have T9 := RDTo.trans hI0 T8 t9
      rw [← Hm6.out] at T9
      clear t9 T8 t7
      obtain ⟨⟨κ9, A9, c9, vv9, val9, cb9, h9, hF9⟩, hlo9⟩ := id T9.is_
      have hb9 := h9.blk
      have hc := hb9.cell
      have hf := hb9.frozen
      unfold rdCells at hc
      have hp6c : m6.p.count = m.p.count := by rw [hp6]
      rw [hp6c] at hc
      have h10 : RDAt B (W9.setCell ⟨b, 21, none⟩ (.int .u32 m.p.count)) b mb { m6 with sent := m.p.count } κ9 A9 c9 vv9 val9 cb9 := h9.upd (keepB (Keep.refl _ W9)) (by simp [World.setCell]) (by simpa [rdCells] using hb9.set_ 21 (.int .u32 m.p.count)) rfl rfl rfl rfl rfl
      have T10 := RDTo.trans hI0 T9 (h9.toOwn T9.is_ hF9 h10 (keepB (Keep.refl _ W9)))
      have hk10 := T10.keep
      have hs9 : W9.heap.size = (W9.setCell ⟨b, 21, none⟩ (.int .u32 m.p.count)).heap.size := by simp [World.setCell]
      have hF10 : ∀ x, κ9 x ≠ none → grow F w (W9.setCell ⟨b, 21, none⟩ (.int .u32 m.p.count)) x := fun x hx => (hF9 x hx).elim .inl (fun h => .inr ⟨h.1, by omega⟩)
      have Hs9 := Lib.hid hs9
      clear T9 T10 hs9 h9
      go_wp2_with fail
      clear hc hf
      refine (rvRun_any b 11 _ _ _ _ _ vv9 _ false h10.valveBlk rfl).mono ?_
      rintro e W11 ⟨rfl, hv⟩
      have h11 := h10.onValve hv (run_val _ false vv9)
      have hk11 : Keep F w W11 := hk10.andThen hv.2.1 (fun x _ e => e ▸ hI0.Fb)
      have hz11 := hv.2.2
      have hF11 : ∀ x, κ9 x ≠ none → grow F w W11 x := fun x hx => (hF10 x hx).elim .inl (fun h => .inr ⟨h.1, by omega⟩)
      have Hz11 := Lib.hid hz11
      clear hv hz11 hk10 hF10 h10
      have hb11 := h11.blk
      have hc := hb11.cell
      have hf := hb11.frozen
      unfold rdCells at hc
      simp only at hc
      have h12 : RDAt B (W11.setCell ⟨b, 18, none⟩ (.int .i64 5)) b mb { ({ m6 with sent := m.p.count } : DevM).run false with state := 5 } κ9 A9 c9 _ val9 cb9 := h11.upd (keepB (Keep.refl _ W11)) (by simp [World.setCell]) (by simpa [rdCells, DevM.run] using hb11.set_ 18 (.int .i64 5)) rfl rfl rfl rfl rfl
      rw [← Hm9.out] at h12
      have hk12 : Keep F w (W11.setCell ⟨b, 18, none⟩ (.int .i64 5)) := hk11.setCell (p := ⟨b, 18, none⟩) (fun _ => hI0.Fb) _
      have hz12 : (W11.setCell ⟨b, 18, none⟩ (.int .i64 5)).heap.size = W11.heap.size := by simp [World.setCell]
      have T12 := h12.toIs hI0 (fun x hx => (hF11 x hx).elim .inl (fun h => .inr ⟨h.1, by omega⟩)) hk12
      have hs12 := T12.keep.size
      have hct := hi.pok.count
      have han := rdAnswer_any B b mb m9 _ 21 m.p.count 0 [] none 0 0 0 _ T12.is_ h9i rfl (by have := hi.p8; omega) Reads.none_ (Nat.zero_le _)
      rw [← Hof.out] at han
      clear hz12 h11 h12 hct
      go_wp2_with fail
      refine han.mono ?_
      rintro e W14 ⟨v14, rfl, hown14, hb14⟩
      obtain ⟨A14, c14, rfl⟩ := own_slice hown14
      go_wp2_with fail
      refine bodyPost_ret (v := .tuple #[.slice A14 of.length c14, .int .i64 0]) (by simp [results, Tryz.results58, go_sem]) rfl ?_
      rw [Hf.out]
      exact ⟨_, rfl, own_base hown14 hs12, RDAp.end_ hI0 T12 hb14 hown14⟩
    ·
      have hq0 : q = m.odds 130 := by rw [Hq.out]; unfold DevM.take; rw [if_neg (by simp), if_neg (by dsimp only; omega), if_neg (by dsimp only; omega), if_neg (by dsimp only; omega), if_neg (by dsimp only; omega)]
      clear Hq
      have e0 : (number == m.p.count) = false := by simpa using hn
      go_wp2_with fail
      go_big_quiet (fail)
      have hA5 := hA4.below (belowN (Below.refl _ W5) nq)
      have hU5 := hU4.drewN nq
      have hb5 := belowN hb4 nq
      have hr5 := hr4.drewN nq
      generalize W5.drewN nq = W6 at *
      clear hc huc hA4 hU4 hb4 hr4
      have hc := hA5.blk.cell
      unfold rdCells at hc
      have huc := hU5.cell
      go_wp2_with fail
      go_big_quiet (fail)
      have hA6 := hA5.below (belowN (Below.refl _ W6) nq)
      have hU6 := hU5.drewN nq
      have hb6 := belowN hb5 nq
      have hr6 := hr5.drewN nq
      generalize W6.drewN nq = W6b at *
      clear hc huc hA5 hU5 hb5 hr5
      have hc := hA6.blk.cell
      unfold rdCells at hc
      have huc := hU6.cell
      go_wp2_with fail
      have tW := hA6.toIs hI0 (fun x hx => .inl (hF x hx)) (Keep.of_below hb6)
      have hst := rdStrange_any B b mb m _ _ tW.is_ hi (by omega)
      have hqi := hi.strange
      have hq : q = (m.strange.1, m.strange.1.none, 130) := hq0
      generalize m.strange = st at *
      obtain ⟨ko, ov⟩ := st
      simp only at hst hqi hq
      obtain ⟨of, Hof⟩ : ∃ of, Hid (of = ko.none) := ⟨_, Lib.hid rfl⟩
      have Hf : Hid (q = (ko, of, 130)) := Lib.hid (by rw [Hof.out]; exact hq)
      clear hq hq0
      refine hst.mono ?_
      rintro e W7 ⟨rfl, t7⟩
      have T7 := RDTo.trans hI0 tW t7
      have hs7 := T7.keep.size
      have hno := rdNone_any B b mb ko _ W7 T7.is_ hqi
      rw [← Hof.out] at hno
      clear hc huc hst t7 tW
      go_wp2_with fail
      refine hno.mono ?_
      rintro e W8 ⟨v8, rfl, hown8, hb8⟩
      obtain ⟨A8, c8, rfl⟩ := own_slice hown8
      go_wp2_with fail
      refine bodyPost_ret (v := .tuple #[.slice A8 of.length c8, .int .i64 130]) (by simp [results, Tryz.results58, go_sem]) rfl ?_
      rw [Hf.out]
      exact ⟨_, rfl, own_base hown8 hs7, RDAp.end_ hI0 T7 hb8 hown8⟩
end Go.Proofs.YtlldgfejcjnpkaaGreat
