/- The base of the laws, part 22: contracts and plain lemmas, no statement. -/
import Derived.Test.YtlldgfejcjnpkaaGreatBase19
set_option linter.unusedVariables false
/- The reference's device takes a unit: kind 2. -/
namespace Go.Proofs.YtlldgfejcjnpkaaGreat
open Go.RowKit
set_option maxHeartbeats 10000000
set_option maxRecDepth 100000
theorem rdUnit_2 (B b mb : Nat) (m : DevM) (F : Nat → Prop) (kind code session number flags : Int) (data : List UInt8) (A : Option Addr) (c Br : Nat) (w : World) (hk : kind = 2) (h : RDTake B w b mb m F ⟨kind, code, session, number, flags, data⟩ A Br) :
    Calls Tryz.prog 58 #[.pointer (some ⟨b, 0, none⟩), unitVal ⟨kind, code, session, number, flags, data⟩ (.slice A data.length c)] w fun e w' => RDAns B w b mb F (m.take ⟨kind, code, session, number, flags, data⟩) e w' := by
  subst hk
  have hI0 := h.is_
  have hi := h.inv
  have hlen := h.len
  have hrd := h.rd
  have hrb := h.rb
  have hd8 := h.d8
  have haf := h.af
  have hok := h.ok
  simp only at hrd hd8
  obtain ⟨q, Hq⟩ : ∃ q, Hid (q = m.take ⟨2, code, session, number, flags, data⟩) := ⟨_, Lib.hid rfl⟩
  rw [← Hq.out]
  obtain ⟨⟨κ, Al, cl, vv, val, cb, hH, hF⟩, hlo⟩ := h.is_
  have hb0 : Below w.heap.size w (w.alloc (.cells #[.int .i64 2, .int .u32 code, .int .u32 session, .int .u32 number, .int .i64 flags, .slice A data.length c] 64)) := (Below.refl _ _).alloc (Nat.le_refl _) _
  have hA1 := hH.below hb0
  have hU1 := Blk.new w 64 #[.int .i64 2, .int .u32 code, .int .u32 session, .int .u32 number, .int .i64 flags, .slice A data.length c]
  have hua : w.heap.size ≠ b := by have := (hH.inF hH.kb).2; omega
  have huF : ∀ x, F x → x ≠ w.heap.size := fun x hx e => by have := (hlo x hx).2; omega
  obtain ⟨u0, Hu0⟩ : ∃ e, Hid (e = w.heap.size) := ⟨_, Lib.hid rfl⟩
  have hsg := fun W => r9sign_any m.p W hi.pok hi.plaw
  unfold parVal at hsg
  obtain ⟨sg, Hsg⟩ : ∃ x, Hid (x = m.p.sign) := ⟨_, Lib.hid rfl⟩
  rw [← Hsg.out] at hsg
  clear h
  unfold RDAns
  unfold unitVal
  simp only
  go_enter Tryz.func58, Tryz.ntmps58
  go_upto_region 1 with fail
  rw [← Hu0.out] at hU1 hua huF ⊢
  generalize w.alloc (.cells _ 64) = W1 at *
  have huc := hU1.cell
  have hr1 := hrd.below (hb0.mono hrb)
  have hs1 := hb0.size
  have hA2 := hA1.drew
  have hU2 := hU1.drew
  have hb2 := hb0.drew
  have hr2 := hr1.drew
  have hbH := hA2.blk
  have hB2 : Br ≤ W1.drew.heap.size := by show Br ≤ W1.heap.size; omega
  go_wp2_with fail
  go_region_held (fun w' => w'.cell? ⟨b, 0, none⟩ = some (.int .u32 m.p.code) ∧ w'.cell? ⟨b, 1, none⟩ = some (.int .i64 m.p.out) ∧ w'.cell? ⟨b, 2, none⟩ = some (.int .i64 m.p.inn) ∧ w'.cell? ⟨b, 3, none⟩ = some (.int .i64 m.p.watch) ∧ w'.cell? ⟨b, 4, none⟩ = some (.int .u32 m.p.count) ∧ w'.cell? ⟨u0, 5, none⟩ = some (.slice A data.length c) ∧ (convert 22 9 (.slice A data.length c)).run Tryz.prog w' = .ok (.string ⟨data.toArray⟩) w') (exact rdS5 hbH hU2 hr2) (first
    | (go_at_call 45; refine (hsg _).mono ?_; rintro e W3 ⟨v3, rfl, hown3, hb3⟩; obtain ⟨A3, c3, hv3⟩ := own_slice hown3; subst hv3; have hcv := conv_reads (c := c3) (Reads.of_own hown3); replace hA2 := hA2.below hb3; clear hbH; have hbH := hA2.blk; replace hU2 := hU2.below hb3 hU2.lt; replace hr2 := hr2.below (hb3.mono hB2); replace hb2 := hb2.trans (hb3.mono hb2.size)))
  clear huc hcv hA1 hU1 hr1
  obtain ⟨sgb, Hsgb⟩ : ∃ x, Hid (x = (data == sg)) := ⟨_, Lib.hid rfl⟩
  rw [← Hsgb.out]
  clear hbH
  have hc := hA2.blk.cell
  unfold rdCells at hc
  have huc := hU2.cell
  go_wp2_with fail
  go_big_quiet (fail)
  have hA3 := hA2.below (belowN (Below.refl _ W3) nq)
  have hU3 := hU2.drewN nq
  have hb3 := belowN hb2 nq
  have hr3 := hr2.drewN nq
  generalize W3.drewN nq = W4 at *
  clear hc huc hA2 hU2 hb2 hr2
  have hc := hA3.blk.cell
  unfold rdCells at hc
  have huc := hU3.cell
  obtain ⟨mi, Hmi⟩ : ∃ x, Hid (x = (session == m.session)) := ⟨_, Lib.hid rfl⟩
  rw [← Hmi.out]
  go_upto_region 3 with fail
  go_cut [8] (fun v8 wc => v8 = .bool (mi && (m.state == 4) && decide (m.number < number)) ∧ ∃ n, wc = W4.drewN n)
  case first =>
    cases mi
    · go_big_quiet (fail)
      go_wp2_with fail
      go_meet
      exact ⟨rfl, _, rfl⟩
    · by_cases h4 : m.state = 4
      · rw [h4] at hc
        go_big_quiet (fail)
        go_wp2_with fail
        go_meet
        exact ⟨by rw [h4]; rfl, _, rfl⟩
      · have g4 : (m.state == 4) = false := by simpa using h4
        go_big_quiet (fail)
        go_wp2_with fail
        go_meet
        exact ⟨by rw [g4]; rfl, _, rfl⟩
  case rest =>
  obtain ⟨rfl, nq, rfl⟩ := hcut
  obtain ⟨mo, Hmo⟩ : ∃ x, Hid (x = (mi && (m.state == 4) && decide (m.number < number))) := ⟨_, Lib.hid rfl⟩
  rw [← Hmo.out]
  have hA4 := hA3.below (belowN (Below.refl _ W4) nq)
  have hU4 := hU3.drewN nq
  have hb4 := belowN hb3 nq
  have hr4 := hr3.drewN nq
  generalize W4.drewN nq = W5 at *
  clear hc huc hA3 hU3 hb3 hr3
  have hc := hA4.blk.cell
  unfold rdCells at hc
  have huc := hU4.cell
  have hs0 : w.heap.size ≤ W5.heap.size := hb4.size
  have Hsd : Hid (sgb = true ↔ data = m.p.sign) := Lib.hid (by rw [Hsgb.out, ← Hsg.out]; simp)
  have Hms : Hid (mi = true ↔ session = m.session) := Lib.hid (by rw [Hmi.out]; simp)
  have Hmm : Hid (mo = true ↔ mi = true ∧ m.state = 4 ∧ m.number < number) := Lib.hid (by rw [Hmo.out]; simp [and_assoc])
  clear Hsgb Hmi Hmo hsg
  have hd8' : data.length ≤ 1000000 := by omega
  have hstr := fun (M : DevM) (G : Nat → Prop) W hW hi hl => rdStrange_any B b mb M G W hW hi hl
  cases mi
  case false =>
    have hq0 : q = m.odds 130 := by rw [Hq.out]; unfold DevM.take; rw [if_neg (by simp), if_neg (fun h => by have := Hms.out.2 h.2.1; simp at this), if_neg (by dsimp only; omega), if_neg (by dsimp only; omega), if_neg (by dsimp only; omega)]
    clear Hq
    go_wp2_with fail
    go_big_quiet (fail)
    have hA5 := hA4.below (belowN (Below.refl _ W5) nq)
    have hU5 := hU4.drewN nq
    have hb5 := belowN hb4 nq
    have hr5 := hr4.drewN nq
    generalize W5.drewN nq = W6 at *
    clear hc huc hA4 hU4 hb4 hr4
    have hc := hA5.blk.cell
    unfold rdCells at hc
    have huc := hU5.cell
    go_wp2_with fail
    go_big_quiet (fail)
    have hA6 := hA5.below (belowN (Below.refl _ W6) nq)
    have hU6 := hU5.drewN nq
    have hb6 := belowN hb5 nq
    have hr6 := hr5.drewN nq
    generalize W6.drewN nq = W6b at *
    clear hc huc hA5 hU5 hb5 hr5
    have hc := hA6.blk.cell
    unfold rdCells at hc
    have huc := hU6.cell
    go_wp2_with fail
    have tW := hA6.toIs hI0 (fun x hx => .inl (hF x hx)) (Keep.of_below hb6)
    have hst := rdStrange_any B b mb m _ _ tW.is_ hi (by omega)
    have hqi := hi.strange
    have hq : q = (m.strange.1, m.strange.1.none, 130) := hq0
    generalize m.strange = st at *
    obtain ⟨ko, ov⟩ := st
    simp only at hst hqi hq
    obtain ⟨of, Hof⟩ : ∃ of, Hid (of = ko.none) := ⟨_, Lib.hid rfl⟩
    have Hf : Hid (q = (ko, of, 130)) := Lib.hid (by rw [Hof.out]; exact hq)
    clear hq hq0
    refine hst.mono ?_
    rintro e W7 ⟨rfl, t7⟩
    have T7 := RDTo.trans hI0 tW t7
    have hs7 := T7.keep.size
    have hno := rdNone_any B b mb ko _ W7 T7.is_ hqi
    rw [← Hof.out] at hno
    clear hc huc hst t7 tW
    go_wp2_with fail
    refine hno.mono ?_
    rintro e W8 ⟨v8, rfl, hown8, hb8⟩
    obtain ⟨A8, c8, rfl⟩ := own_slice hown8
    go_wp2_with fail
    refine bodyPost_ret (v := .tuple #[.slice A8 of.length c8, .int .i64 130]) (by simp [results, Tryz.results58, go_sem]) rfl ?_
    rw [Hf.out]
    exact ⟨_, rfl, own_base hown8 hs7, RDAp.end_ hI0 T7 hb8 hown8⟩
  case true =>
    by_cases hs : m.state = 2
    · cases sgb
      case false =>
        have hq0 : q = m.odds 91 := by rw [Hq.out]; unfold DevM.take; rw [if_neg (by simp), if_pos ⟨rfl, Hms.out.1 rfl, by omega⟩, if_pos (fun e => by have := Hsd.out.2 e; simp at this)]
        rw [hs] at hc
        clear Hq
        go_wp2_with fail
        have tW := hA4.toIs hI0 (fun x hx => .inl (hF x hx)) (Keep.of_below hb4)
        have hst := rdStrange_any B b mb m _ _ tW.is_ hi (by omega)
        have hqi := hi.strange
        have hq : q = (m.strange.1, m.strange.1.none, 91) := hq0
        generalize m.strange = st at *
        obtain ⟨ko, ov⟩ := st
        simp only at hst hqi hq
        obtain ⟨of, Hof⟩ : ∃ of, Hid (of = ko.none) := ⟨_, Lib.hid rfl⟩
        have Hf : Hid (q = (ko, of, 91)) := Lib.hid (by rw [Hof.out]; exact hq)
        clear hq hq0
        refine hst.mono ?_
        rintro e W7 ⟨rfl, t7⟩
        have T7 := RDTo.trans hI0 tW t7
        have hs7 := T7.keep.size
        have hno := rdNone_any B b mb ko _ W7 T7.is_ hqi
        rw [← Hof.out] at hno
        clear hc huc hst t7 tW
        go_wp2_with fail
        refine hno.mono ?_
        rintro e W8 ⟨v8, rfl, hown8, hb8⟩
        obtain ⟨A8, c8, rfl⟩ := own_slice hown8
        go_wp2_with fail
        refine bodyPost_ret (v := .tuple #[.slice A8 of.length c8, .int .i64 91]) (by simp [results, Tryz.results58, go_sem]) rfl ?_
        rw [Hf.out]
        exact ⟨_, rfl, own_base hown8 hs7, RDAp.end_ hI0 T7 hb8 hown8⟩
      case true =>
        have hq : q = (({ m with state := 3 } : DevM).alive, (({ m with state := 3 } : DevM).alive).frame 18 0 0 [], 0) := by rw [Hq.out]; unfold DevM.take; rw [if_neg (by simp), if_pos ⟨rfl, Hms.out.1 rfl, by omega⟩, if_neg (fun h => h (Hsd.out.1 rfl))]; simp only; rw [if_pos hs]
        obtain ⟨of, Hof⟩ : ∃ of, Hid (of = (({ m with state := 3 } : DevM).alive).frame 18 0 0 []) := ⟨_, Lib.hid rfl⟩
        have Hf : Hid (q = (({ m with state := 3 } : DevM).alive, of, 0)) := Lib.hid (by rw [Hof.out]; exact hq)
        clear Hq hq
        rw [hs] at hc
        have hf := hA4.blk.frozen
        have hA6 : RDAt B (W5.setCell ⟨b, 18, none⟩ (.int .i64 3)) b mb { m with state := 3 } κ Al cl vv val cb := hA4.upd (keepB (Keep.refl _ W5)) (by simp [World.setCell]) (by simpa [rdCells] using hA4.blk.set_ 18 (.int .i64 3)) rfl rfl rfl rfl rfl
        have tW := hA4.toIs hI0 (fun x hx => .inl (hF x hx)) (Keep.of_below hb4)
        have hk6 : Keep F w (W5.setCell ⟨b, 18, none⟩ (.int .i64 3)) := (Keep.of_below hb4).setCell (p := ⟨b, 18, none⟩) (fun _ => hI0.Fb) _
        have t6 := hA6.toIs hI0 (fun x hx => .inl (hF x hx)) hk6
        go_wp2_with fail
        clear hc hf huc
        refine (rdOn_any B b mb _ _ _ t6.is_ hi.fr).mono ?_
        rintro e W7 ⟨rfl, t8⟩
        have T7 := RDTo.trans hI0 t6 t8
        have hni : (({ m with state := 3 } : DevM).alive).Inv := (hi.toSt 3 (by omega)).alive
        have hs7 := T7.keep.size
        have han := rdAnswer_any B b mb (({ m with state := 3 } : DevM).alive) _ 18 0 0 [] none 0 0 0 _ T7.is_ hni rfl (by omega) Reads.none_ (Nat.zero_le _)
        rw [← Hof.out] at han
        go_wp2_with fail
        refine han.mono ?_
        rintro e W8 ⟨v8, rfl, hown8, hb8⟩
        obtain ⟨A8, c8, rfl⟩ := own_slice hown8
        go_wp2_with fail
        refine bodyPost_ret (v := .tuple #[.slice A8 of.length c8, .int .i64 0]) (by simp [results, Tryz.results58, go_sem]) rfl ?_
        rw [Hf.out]
        exact ⟨_, rfl, own_base hown8 hs7, RDAp.end_ hI0 T7 hb8 hown8⟩
    have h2 := hs
    clear hs
    by_cases hs : m.state = 3
    · cases sgb
      case false =>
        have hq0 : q = m.odds 91 := by rw [Hq.out]; unfold DevM.take; rw [if_neg (by simp), if_pos ⟨rfl, Hms.out.1 rfl, by omega⟩, if_pos (fun e => by have := Hsd.out.2 e; simp at this)]
        rw [hs] at hc
        clear Hq
        go_wp2_with fail
        have tW := hA4.toIs hI0 (fun x hx => .inl (hF x hx)) (Keep.of_below hb4)
        have hst := rdStrange_any B b mb m _ _ tW.is_ hi (by omega)
        have hqi := hi.strange
        have hq : q = (m.strange.1, m.strange.1.none, 91) := hq0
        generalize m.strange = st at *
        obtain ⟨ko, ov⟩ := st
        simp only at hst hqi hq
        obtain ⟨of, Hof⟩ : ∃ of, Hid (of = ko.none) := ⟨_, Lib.hid rfl⟩
        have Hf : Hid (q = (ko, of, 91)) := Lib.hid (by rw [Hof.out]; exact hq)
        clear hq hq0
        refine hst.mono ?_
        rintro e W7 ⟨rfl, t7⟩
        have T7 := RDTo.trans hI0 tW t7
        have hs7 := T7.keep.size
        have hno := rdNone_any B b mb ko _ W7 T7.is_ hqi
        rw [← Hof.out] at hno
        clear hc huc hst t7 tW
        go_wp2_with fail
        refine hno.mono ?_
        rintro e W8 ⟨v8, rfl, hown8, hb8⟩
        obtain ⟨A8, c8, rfl⟩ := own_slice hown8
        go_wp2_with fail
        refine bodyPost_ret (v := .tuple #[.slice A8 of.length c8, .int .i64 91]) (by simp [results, Tryz.results58, go_sem]) rfl ?_
        rw [Hf.out]
        exact ⟨_, rfl, own_base hown8 hs7, RDAp.end_ hI0 T7 hb8 hown8⟩
      case true =>
        have hq : q = (m, (m).frame 18 0 0 [], 0) := by rw [Hq.out]; unfold DevM.take; rw [if_neg (by simp), if_pos ⟨rfl, Hms.out.1 rfl, by omega⟩, if_neg (fun h => h (Hsd.out.1 rfl))]; simp only; rw [if_neg (by omega)]
        obtain ⟨of, Hof⟩ : ∃ of, Hid (of = (m).frame 18 0 0 []) := ⟨_, Lib.hid rfl⟩
        have Hf : Hid (q = (m, of, 0)) := Lib.hid (by rw [Hof.out]; exact hq)
        clear Hq hq
        rw [hs] at hc
        have tW := hA4.toIs hI0 (fun x hx => .inl (hF x hx)) (Keep.of_below hb4)
        have T7 := tW
        have hni := hi
        have hs7 := T7.keep.size
        have han := rdAnswer_any B b mb (m) _ 18 0 0 [] none 0 0 0 _ T7.is_ hni rfl (by omega) Reads.none_ (Nat.zero_le _)
        rw [← Hof.out] at han
        go_wp2_with fail
        refine han.mono ?_
        rintro e W8 ⟨v8, rfl, hown8, hb8⟩
        obtain ⟨A8, c8, rfl⟩ := own_slice hown8
        go_wp2_with fail
        refine bodyPost_ret (v := .tuple #[.slice A8 of.length c8, .int .i64 0]) (by simp [results, Tryz.results58, go_sem]) rfl ?_
        rw [Hf.out]
        exact ⟨_, rfl, own_base hown8 hs7, RDAp.end_ hI0 T7 hb8 hown8⟩
    have h3 := hs
    have hq0 : q = m.odds 130 := by rw [Hq.out]; unfold DevM.take; rw [if_neg (by simp), if_neg (by dsimp only; omega), if_neg (by dsimp only; omega), if_neg (by dsimp only; omega), if_neg (by dsimp only; omega)]
    clear Hq
    have e2 : (m.state == 2) = false := by simpa using h2
    have e3 : (m.state == 3) = false := by simpa using h3
    go_wp2_with fail
    go_big_quiet (fail)
    have hA5 := hA4.below (belowN (Below.refl _ W5) nq)
    have hU5 := hU4.drewN nq
    have hb5 := belowN hb4 nq
    have hr5 := hr4.drewN nq
    generalize W5.drewN nq = W6 at *
    clear hc huc hA4 hU4 hb4 hr4
    have hc := hA5.blk.cell
    unfold rdCells at hc
    have huc := hU5.cell
    go_wp2_with fail
    go_big_quiet (fail)
    have hA6 := hA5.below (belowN (Below.refl _ W6) nq)
    have hU6 := hU5.drewN nq
    have hb6 := belowN hb5 nq
    have hr6 := hr5.drewN nq
    generalize W6.drewN nq = W6b at *
    clear hc huc hA5 hU5 hb5 hr5
    have hc := hA6.blk.cell
    unfold rdCells at hc
    have huc := hU6.cell
    go_wp2_with fail
    have tW := hA6.toIs hI0 (fun x hx => .inl (hF x hx)) (Keep.of_below hb6)
    have hst := rdStrange_any B b mb m _ _ tW.is_ hi (by omega)
    have hqi := hi.strange
    have hq : q = (m.strange.1, m.strange.1.none, 130) := hq0
    generalize m.strange = st at *
    obtain ⟨ko, ov⟩ := st
    simp only at hst hqi hq
    obtain ⟨of, Hof⟩ : ∃ of, Hid (of = ko.none) := ⟨_, Lib.hid rfl⟩
    have Hf : Hid (q = (ko, of, 130)) := Lib.hid (by rw [Hof.out]; exact hq)
    clear hq hq0
    refine hst.mono ?_
    rintro e W7 ⟨rfl, t7⟩
    have T7 := RDTo.trans hI0 tW t7
    have hs7 := T7.keep.size
    have hno := rdNone_any B b mb ko _ W7 T7.is_ hqi
    rw [← Hof.out] at hno
    clear hc huc hst t7 tW
    go_wp2_with fail
    refine hno.mono ?_
    rintro e W8 ⟨v8, rfl, hown8, hb8⟩
    obtain ⟨A8, c8, rfl⟩ := own_slice hown8
    go_wp2_with fail
    refine bodyPost_ret (v := .tuple #[.slice A8 of.length c8, .int .i64 130]) (by simp [results, Tryz.results58, go_sem]) rfl ?_
    rw [Hf.out]
    exact ⟨_, rfl, own_base hown8 hs7, RDAp.end_ hI0 T7 hb8 hown8⟩
end Go.Proofs.YtlldgfejcjnpkaaGreat
/- The reference's device takes a unit: kind 4. -/
namespace Go.Proofs.YtlldgfejcjnpkaaGreat
open Go.RowKit
set_option maxHeartbeats 10000000
set_option maxRecDepth 100000
theorem rdUnit_4 (B b mb : Nat) (m : DevM) (F : Nat → Prop) (kind code session number flags : Int) (data : List UInt8) (A : Option Addr) (c Br : Nat) (w : World) (hk : kind = 4) (h : RDTake B w b mb m F ⟨kind, code, session, number, flags, data⟩ A Br) :
    Calls Tryz.prog 58 #[.pointer (some ⟨b, 0, none⟩), unitVal ⟨kind, code, session, number, flags, data⟩ (.slice A data.length c)] w fun e w' => RDAns B w b mb F (m.take ⟨kind, code, session, number, flags, data⟩) e w' := by
  subst hk
  have hI0 := h.is_
  have hi := h.inv
  have hlen := h.len
  have hrd := h.rd
  have hrb := h.rb
  have hd8 := h.d8
  have haf := h.af
  have hok := h.ok
  simp only at hrd hd8
  obtain ⟨q, Hq⟩ : ∃ q, Hid (q = m.take ⟨4, code, session, number, flags, data⟩) := ⟨_, Lib.hid rfl⟩
  rw [← Hq.out]
  obtain ⟨⟨κ, Al, cl, vv, val, cb, hH, hF⟩, hlo⟩ := h.is_
  have hb0 : Below w.heap.size w (w.alloc (.cells #[.int .i64 4, .int .u32 code, .int .u32 session, .int .u32 number, .int .i64 flags, .slice A data.length c] 64)) := (Below.refl _ _).alloc (Nat.le_refl _) _
  have hA1 := hH.below hb0
  have hU1 := Blk.new w 64 #[.int .i64 4, .int .u32 code, .int .u32 session, .int .u32 number, .int .i64 flags, .slice A data.length c]
  have hua : w.heap.size ≠ b := by have := (hH.inF hH.kb).2; omega
  have huF : ∀ x, F x → x ≠ w.heap.size := fun x hx e => by have := (hlo x hx).2; omega
  obtain ⟨u0, Hu0⟩ : ∃ e, Hid (e = w.heap.size) := ⟨_, Lib.hid rfl⟩
  have hsg := fun W => r9sign_any m.p W hi.pok hi.plaw
  unfold parVal at hsg
  obtain ⟨sg, Hsg⟩ : ∃ x, Hid (x = m.p.sign) := ⟨_, Lib.hid rfl⟩
  rw [← Hsg.out] at hsg
  clear h
  unfold RDAns
  unfold unitVal
  simp only
  go_enter Tryz.func58, Tryz.ntmps58
  go_upto_region 1 with fail
  rw [← Hu0.out] at hU1 hua huF ⊢
  generalize w.alloc (.cells _ 64) = W1 at *
  have huc := hU1.cell
  have hr1 := hrd.below (hb0.mono hrb)
  have hs1 := hb0.size
  have hA2 := hA1.drew
  have hU2 := hU1.drew
  have hb2 := hb0.drew
  have hr2 := hr1.drew
  have hbH := hA2.blk
  have hB2 : Br ≤ W1.drew.heap.size := by show Br ≤ W1.heap.size; omega
  go_wp2_with fail
  go_region_held (fun w' => w'.cell? ⟨b, 0, none⟩ = some (.int .u32 m.p.code) ∧ w'.cell? ⟨b, 1, none⟩ = some (.int .i64 m.p.out) ∧ w'.cell? ⟨b, 2, none⟩ = some (.int .i64 m.p.inn) ∧ w'.cell? ⟨b, 3, none⟩ = some (.int .i64 m.p.watch) ∧ w'.cell? ⟨b, 4, none⟩ = some (.int .u32 m.p.count) ∧ w'.cell? ⟨u0, 5, none⟩ = some (.slice A data.length c) ∧ (convert 22 9 (.slice A data.length c)).run Tryz.prog w' = .ok (.string ⟨data.toArray⟩) w') (exact rdS5 hbH hU2 hr2) (first
    | (go_at_call 45; refine (hsg _).mono ?_; rintro e W3 ⟨v3, rfl, hown3, hb3⟩; obtain ⟨A3, c3, hv3⟩ := own_slice hown3; subst hv3; have hcv := conv_reads (c := c3) (Reads.of_own hown3); replace hA2 := hA2.below hb3; clear hbH; have hbH := hA2.blk; replace hU2 := hU2.below hb3 hU2.lt; replace hr2 := hr2.below (hb3.mono hB2); replace hb2 := hb2.trans (hb3.mono hb2.size)))
  clear huc hcv hA1 hU1 hr1
  obtain ⟨sgb, Hsgb⟩ : ∃ x, Hid (x = (data == sg)) := ⟨_, Lib.hid rfl⟩
  rw [← Hsgb.out]
  clear hbH
  have hc := hA2.blk.cell
  unfold rdCells at hc
  have huc := hU2.cell
  go_wp2_with fail
  go_big_quiet (fail)
  have hA3 := hA2.below (belowN (Below.refl _ W3) nq)
  have hU3 := hU2.drewN nq
  have hb3 := belowN hb2 nq
  have hr3 := hr2.drewN nq
  generalize W3.drewN nq = W4 at *
  clear hc huc hA2 hU2 hb2 hr2
  have hc := hA3.blk.cell
  unfold rdCells at hc
  have huc := hU3.cell
  obtain ⟨mi, Hmi⟩ : ∃ x, Hid (x = (session == m.session)) := ⟨_, Lib.hid rfl⟩
  rw [← Hmi.out]
  go_upto_region 3 with fail
  go_cut [8] (fun v8 wc => v8 = .bool (mi && (m.state == 4) && decide (m.number < number)) ∧ ∃ n, wc = W4.drewN n)
  case first =>
    cases mi
    · go_big_quiet (fail)
      go_wp2_with fail
      go_meet
      exact ⟨rfl, _, rfl⟩
    · by_cases h4 : m.state = 4
      · rw [h4] at hc
        go_big_quiet (fail)
        go_wp2_with fail
        go_meet
        exact ⟨by rw [h4]; rfl, _, rfl⟩
      · have g4 : (m.state == 4) = false := by simpa using h4
        go_big_quiet (fail)
        go_wp2_with fail
        go_meet
        exact ⟨by rw [g4]; rfl, _, rfl⟩
  case rest =>
  obtain ⟨rfl, nq, rfl⟩ := hcut
  obtain ⟨mo, Hmo⟩ : ∃ x, Hid (x = (mi && (m.state == 4) && decide (m.number < number))) := ⟨_, Lib.hid rfl⟩
  rw [← Hmo.out]
  have hA4 := hA3.below (belowN (Below.refl _ W4) nq)
  have hU4 := hU3.drewN nq
  have hb4 := belowN hb3 nq
  have hr4 := hr3.drewN nq
  generalize W4.drewN nq = W5 at *
  clear hc huc hA3 hU3 hb3 hr3
  have hc := hA4.blk.cell
  unfold rdCells at hc
  have huc := hU4.cell
  have hs0 : w.heap.size ≤ W5.heap.size := hb4.size
  have Hsd : Hid (sgb = true ↔ data = m.p.sign) := Lib.hid (by rw [Hsgb.out, ← Hsg.out]; simp)
  have Hms : Hid (mi = true ↔ session = m.session) := Lib.hid (by rw [Hmi.out]; simp)
  have Hmm : Hid (mo = true ↔ mi = true ∧ m.state = 4 ∧ m.number < number) := Lib.hid (by rw [Hmo.out]; simp [and_assoc])
  clear Hsgb Hmi Hmo hsg
  have hd8' : data.length ≤ 1000000 := by omega
  have hstr := fun (M : DevM) (G : Nat → Prop) W hW hi hl => rdStrange_any B b mb M G W hW hi hl
  cases mo
  case false =>
    have hq0 : q = m.odds 130 := by rw [Hq.out]; unfold DevM.take; rw [if_neg (by simp), if_neg (by dsimp only; omega), if_neg (by dsimp only; omega), if_neg (fun h => by have := Hmm.out.2 ⟨Hms.out.2 h.2.2.1, h.2.1, h.2.2.2.1⟩; simp at this), if_neg (by dsimp only; omega)]
    clear Hq
    go_wp2_with fail
    go_big_quiet (fail)
    have hA5 := hA4.below (belowN (Below.refl _ W5) nq)
    have hU5 := hU4.drewN nq
    have hb5 := belowN hb4 nq
    have hr5 := hr4.drewN nq
    generalize W5.drewN nq = W6 at *
    clear hc huc hA4 hU4 hb4 hr4
    have hc := hA5.blk.cell
    unfold rdCells at hc
    have huc := hU5.cell
    go_wp2_with fail
    go_big_quiet (fail)
    have hA6 := hA5.below (belowN (Below.refl _ W6) nq)
    have hU6 := hU5.drewN nq
    have hb6 := belowN hb5 nq
    have hr6 := hr5.drewN nq
    generalize W6.drewN nq = W6b at *
    clear hc huc hA5 hU5 hb5 hr5
    have hc := hA6.blk.cell
    unfold rdCells at hc
    have huc := hU6.cell
    go_wp2_with fail
    have tW := hA6.toIs hI0 (fun x hx => .inl (hF x hx)) (Keep.of_below hb6)
    have hst := rdStrange_any B b mb m _ _ tW.is_ hi (by omega)
    have hqi := hi.strange
    have hq : q = (m.strange.1, m.strange.1.none, 130) := hq0
    generalize m.strange = st at *
    obtain ⟨ko, ov⟩ := st
    simp only at hst hqi hq
    obtain ⟨of, Hof⟩ : ∃ of, Hid (of = ko.none) := ⟨_, Lib.hid rfl⟩
    have Hf : Hid (q = (ko, of, 130)) := Lib.hid (by rw [Hof.out]; exact hq)
    clear hq hq0
    refine hst.mono ?_
    rintro e W7 ⟨rfl, t7⟩
    have T7 := RDTo.trans hI0 tW t7
    have hs7 := T7.keep.size
    have hno := rdNone_any B b mb ko _ W7 T7.is_ hqi
    rw [← Hof.out] at hno
    clear hc huc hst t7 tW
    go_wp2_with fail
    refine hno.mono ?_
    rintro e W8 ⟨v8, rfl, hown8, hb8⟩
    obtain ⟨A8, c8, rfl⟩ := own_slice hown8
    go_wp2_with fail
    refine bodyPost_ret (v := .tuple #[.slice A8 of.length c8, .int .i64 130]) (by simp [results, Tryz.results58, go_sem]) rfl ?_
    rw [Hf.out]
    exact ⟨_, rfl, own_base hown8 hs7, RDAp.end_ hI0 T7 hb8 hown8⟩
  case true =>
    by_cases hn : number < m.p.count
    · by_cases hl : (data.length : Int) = m.p.out
      ·
        have hmm := Hmm.out.1 rfl
        have hse : session = m.session := Hms.out.1 hmm.1
        have hst4 := hmm.2.1
        have hlt4 := hmm.2.2
        obtain ⟨m6, Hm6⟩ : ∃ x, Hid (x = ({ m with number := number } : DevM).alive) := ⟨_, Lib.hid rfl⟩
        obtain ⟨m9, Hm9⟩ : ∃ x : DevM, Hid (x = { m6 with valve := (m6.valve.hold (decide (8 ≤ flags))).take data, sent := m6.sent + 1 }) := ⟨_, Lib.hid rfl⟩
        have hq : q = (m9, m9.frame 20 m9.sent (flagsM m9.valve m9.hold) m9.value, 0) := by
          rw [Hq.out, Hm9.out, Hm6.out]; unfold DevM.take
          rw [if_neg (by simp), if_neg (by dsimp only; omega), if_neg (by dsimp only; omega), if_pos ⟨rfl, hst4, hse, hlt4, hl, hn⟩]
        obtain ⟨of, Hof⟩ : ∃ of, Hid (of = m9.frame 20 m9.sent (flagsM m9.valve m9.hold) m9.value) := ⟨_, Lib.hid rfl⟩
        have Hf : Hid (q = (m9, of, 0)) := Lib.hid (by rw [Hof.out]; exact hq)
        have h9i : m9.Inv := by
          have h1 := hi.take (u := ⟨4, code, session, number, flags, data⟩) hok.number
          rw [← Hq.out, hq] at h1
          exact h1
        clear hq Hq
        have e0 : decide (number < m.p.count) = true := by simpa using hn
        have e1 : ((data.length : Int) == m.p.out) = true := by simpa using hl
        go_wp2_with fail
        go_big_quiet (fail)
        have hA5 := hA4.below (belowN (Below.refl _ W5) nq)
        have hU5 := hU4.drewN nq
        have hb5 := belowN hb4 nq
        have hr5 := hr4.drewN nq
        generalize W5.drewN nq = W6 at *
        clear hc huc hA4 hU4 hb4 hr4
        have hc := hA5.blk.cell
        unfold rdCells at hc
        have huc := hU5.cell
        have hf := hA5.blk.frozen
        have hA6 : RDAt B (W6.setCell ⟨b, 20, none⟩ (.int .u32 number)) b mb { m with number := number } κ Al cl vv val cb := hA5.upd (keepB (Keep.refl _ W6)) (by simp [World.setCell]) (by simpa [rdCells] using hA5.blk.set_ 20 (.int .u32 number)) rfl rfl rfl rfl rfl
        have hk6 : Keep F w (W6.setCell ⟨b, 20, none⟩ (.int .u32 number)) := (Keep.of_below hb5).setCell (p := ⟨b, 20, none⟩) (fun _ => hI0.Fb) _
        have hU6 := hU5.far (p := ⟨b, 20, none⟩) hua (.int .u32 number)
        have hr6 : Reads (W6.setCell ⟨b, 20, none⟩ (.int .u32 number)) Br 1 A data.length (u8c data) := hrd.keepS hk6 hrb haf
        go_wp2_with fail
        clear hc hf huc
        have hlt6 := hU6.lt
        generalize W6.setCell ⟨b, 20, none⟩ (.int .u32 number) = W7 at *
        have hs7 := hk6.size
        have I6 : RDIs B W7 b mb { m with number := number } F := ⟨⟨κ, Al, cl, vv, val, cb, hA6, hF⟩, fun x hx => by have := hlo x hx; omega⟩
        refine (rdOn_any B b mb _ F W7 I6 hi.fr).mono ?_
        rintro e W8 ⟨rfl, t8⟩
        have hs8 := t8.keep.size
        have hk8 : Keep F w W8 := hk6.andThen t8.keep (fun _ _ h => h)
        have hU8 := hU6.keep t8.keep (fun hx => huF u0 hx rfl)
        have hr8 := hr6.keepS t8.keep (by omega) haf
        obtain ⟨⟨κ8, A8, c8, vv8, val8, cb8, h8, hF8⟩, hlo8⟩ := t8.is_
        have hF8' : ∀ x, κ8 x ≠ none → grow F w W8 x := fun x hx => (hF8 x hx).elim .inl (fun h => .inr ⟨by omega, h.2⟩)
        rw [← Hm6.out] at h8
        clear hA6 hU6 hr6 t8 hF8 hlo8 I6
        have hc := h8.blk.cell
        unfold rdCells at hc
        have huc := hU8.cell
        replace h8 := h8.drew
        replace hU8 := hU8.drew
        have hbV := h8.valveBlk
        go_wp2_with fail
        go_region_held3 (fun w' => w'.cell? ⟨u0, 4, none⟩ = some (.int .i64 flags)) (exact (hU8.cell 4).trans rfl) (first
          | (go_at_call 113; refine (rvHold_any b 11 _ _ _ m6.p.out m6.valve vv8 _ (decide (8 ≤ flags)) hbV rfl).mono ?_; rintro e W9 ⟨rfl, hv9⟩; have h9 := h8.onValve hv9 (.inl ⟨rfl, rfl⟩); replace hU8 := hU8.keep hv9.2.1 (fun e => hua e)))
        have hk9 : Keep F w W9 := hk8.drew.andThen hv9.2.1 (fun x _ hx => hx ▸ hI0.Fb)
        have hs9 : W8.heap.size ≤ W9.heap.size := hv9.2.1.size
        have hr9 := hr8.drew.keepS hv9.2.1 (by show Br ≤ W8.heap.size; omega) (fun ad e hx => haf ad e (hx ▸ hI0.Fb))
        clear hc huc hbV hv9 h8
        replace h9 := h9.drew
        replace hU8 := hU8.drew
        have hr9d := hr9.drew
        have hvb := h9.valveBlk
        have hvr := h9.vval
        have hnb : ∀ ad, A = some ad → ad.block ≠ b := fun ad e hx => haf ad e (hx ▸ hI0.Fb)
        go_wp2_with fail
        go_region_held3 (fun w' => w'.cell? ⟨u0, 5, none⟩ = some (.slice A data.length c)) (exact (hU8.cell 5).trans rfl) (first
          | (go_at_call 114; refine (rvTake_any b 11 _ _ _ m6.p.out (m6.valve.hold (decide (8 ≤ flags))) vv8 _ A data.length c Br data hvb rfl hvr hr9d (by show Br ≤ W9.heap.size; omega) hd8' hnb).mono ?_; rintro e W10 ⟨rfl, vv10, hB10, hV10, hk10, hn10⟩; have h10 := h9.onTake hB10 hV10 hk10 hn10; replace hU8 := hU8.keep hk10 (fun e => hua e)))
        all_goals
          have hs10 : W9.heap.size ≤ W10.heap.size := hk10.size
          have hkF10 : Keep F w W10 := hk9.drew.andThen hk10 (fun x _ hx => hx ▸ hI0.Fb)
          have hF10 : ∀ x, paint κ8 2 W9.drew W10 x ≠ none → grow F w W10 x := fun x hx => by
            rcases paint_sub (F := grow F w W8) hF8' x hx with (h | h) | h
            · exact .inl h
            · exact .inr ⟨h.1, by omega⟩
            · have e9 : W9.drew.heap.size = W9.heap.size := rfl
              exact .inr ⟨by omega, h.2⟩
          clear hB10 hV10 hk10 hn10 h9 hvb hvr hr9d hnb hU8
          have hc := h10.blk.cell
          have hf := h10.blk.frozen
          have hb10 := h10.blk
          unfold rdCells at hc
          simp only at hc
          have hse6 : m6.sent = m.sent := by rw [Hm6.out]; rfl
          have hsn := hi.sent
          have hnr := hok.number
          simp only at hnr
          have hsw : IntKind.u32.wrap (m6.sent + 1) = m6.sent + 1 := IntWalk.u32_in _ (by omega)
          have h11 : RDAt B (W10.setCell ⟨b, 21, none⟩ (.int .u32 (m6.sent + 1))) b mb { m6 with valve := (m6.valve.hold (decide (8 ≤ flags))).take data, sent := m6.sent + 1 } (paint κ8 2 W9.drew W10) A8 c8 vv10 val8 cb8 :=
            h10.upd (keepB (Keep.refl _ W10)) (by simp [World.setCell]) (by simpa [rdCells] using hb10.set_ 21 (.int .u32 (m6.sent + 1))) rfl rfl rfl rfl rfl
          rw [← Hm9.out] at h11
          have hk11 : Keep F w (W10.setCell ⟨b, 21, none⟩ (.int .u32 (m6.sent + 1))) := hkF10.setCell (p := ⟨b, 21, none⟩) (fun _ => hI0.Fb) _
          have hz11 : (W10.setCell ⟨b, 21, none⟩ (.int .u32 (m6.sent + 1))).heap.size = W10.heap.size := by simp [World.setCell]
          have hse9 : m9.sent = m6.sent + 1 := by rw [Hm9.out]
          have Hsn := Lib.hid hsn
          have Hnr := Lib.hid hnr
          have Hz11 := Lib.hid hz11
          have Hse6 := Lib.hid hse6
          have Hse9 := Lib.hid hse9
          clear hse6 hsn hnr hz11 hse9 h10 hb10
          go_upto_region 28 with fail
          generalize W10.setCell ⟨b, 21, none⟩ (.int .u32 (m6.sent + 1)) = W11 at *
          clear hc hf
          have hs9i := h9i.sent
          have hp9 := h9i.p8
          obtain ⟨N, hN⟩ : ∃ N : Nat, m9.p.out = (N : Int) := ⟨m9.p.out.toNat, by omega⟩
          have hN8 : N ≤ 8 := by omega
          have hvv9 : ∀ l, m9.valve.value = some l → l.length = N := fun l hl => by have := h9i.vval l hl; omega
          have HN := Lib.hid hN
          have T11 := h11.toIs hI0 (fun x hx => (hF10 x hx).elim .inl (fun h => .inr ⟨h.1, by have := Hz11.out; omega⟩)) hk11
          have J11 := T11.is_
          have hs11 := hk11.size
          obtain ⟨Av, cv, rfl⟩ := own_slice h11.value
          have hbe11 := Below.refl W11.heap.size W11
          replace hbe11 := hbe11.drew
          have h12 := h11.drew
          have J12 := J11.below (Below.refl W11.heap.size W11).drew
          have hb12 := h12.blk
          have hvb12 := h12.valveBlk
          rw [HN.out] at hvb12
          have hv12 := h12.vval
          have hrv12 := Reads.of_own h12.value
          have hs21 : 0 ≤ m9.sent ∧ m9.sent < 4294967296 := by have := h9i.number; omega
          obtain ⟨fl, Hfl⟩ : ∃ fl, Hid (fl = flagsM m9.valve m9.hold) := ⟨_, Lib.hid rfl⟩
          have hflg := fun w hb hv => r13flags_any b 11 95 (rdPre m9 mb cb8 (.slice A8 m9.log.length c8) ++ rdogCs m9.p.watch m9.since) (rdPost m9 (.slice Av m9.value.length cv)) N m9.valve vv10 m9.hold w hb rfl hv hN8 hvv9
          rw [← Hfl.out] at hflg Hof
          have hans := fun W J Br hr hB => rdAnswer_any B b mb m9 (grow F w W11) 20 m9.sent fl m9.value Av m9.value.length cv Br W J h9i rfl hs21 hr hB
          rw [← Hof.out] at hans
          clear hN hs9i hp9 h11
          rw [← Hse9.out]
          go_wp2_with fail
          go_region_held (fun w' => w'.cell? ⟨b, 21, none⟩ = some (.int .u32 m9.sent) ∧ w'.cell? ⟨b, 24, none⟩ = some (.bool m9.hold) ∧ w'.cell? ⟨b, 23, none⟩ = some (.slice Av m9.value.length cv)) (exact ⟨(hb12.cell 21).trans rfl, (hb12.cell 24).trans rfl, (hb12.cell 23).trans rfl⟩) (first
            | (go_at_call 115; refine (hflg _ hvb12 hv12).mono ?_; rintro e W13 ⟨rfl, hb13⟩; replace h12 := h12.below hb13; replace J12 := J12.below hb13; replace hb12 := h12.blk; have hrv13 := Reads.of_own h12.value; replace hbe11 := hbe11.trans (hb13.mono hbe11.size))
            | (go_at_call 111; refine (hans _ J12 _ hrv13 (Nat.le_refl _)).mono ?_; rintro e W14 ⟨v14, rfl, hown14, hb14⟩; obtain ⟨A14, c14, rfl⟩ := own_slice hown14; replace h12 := h12.below hb14; replace hb12 := h12.blk))
          have hs13 := hbe11.size
          go_wp2_with fail
          refine bodyPost_ret (v := .tuple #[.slice A14 of.length c14, .int .i64 0]) (by simp [results, Tryz.results58, go_sem]) rfl ?_
          rw [Hf.out]
          exact ⟨_, rfl, own_base hown14 (by omega), RDAp.end_ hI0 T11 (hbe11.trans (hb14.mono hs13)) (own_base hown14 hs13)⟩
      ·
        have hq0 : q = m.odds 130 := by rw [Hq.out]; unfold DevM.take; rw [if_neg (by simp), if_neg (by dsimp only; omega), if_neg (by dsimp only; omega), if_neg (by dsimp only; omega), if_neg (by dsimp only; omega)]
        clear Hq
        have e0 : decide (number < m.p.count) = true := by simpa using hn
        have e1 : ((data.length : Int) == m.p.out) = false := by simpa using hl
        go_wp2_with fail
        go_big_quiet (fail)
        have hA5 := hA4.below (belowN (Below.refl _ W5) nq)
        have hU5 := hU4.drewN nq
        have hb5 := belowN hb4 nq
        have hr5 := hr4.drewN nq
        generalize W5.drewN nq = W6 at *
        clear hc huc hA4 hU4 hb4 hr4
        have hc := hA5.blk.cell
        unfold rdCells at hc
        have huc := hU5.cell
        go_wp2_with fail
        go_big_quiet (fail)
        have hA6 := hA5.below (belowN (Below.refl _ W6) nq)
        have hU6 := hU5.drewN nq
        have hb6 := belowN hb5 nq
        have hr6 := hr5.drewN nq
        generalize W6.drewN nq = W6b at *
        clear hc huc hA5 hU5 hb5 hr5
        have hc := hA6.blk.cell
        unfold rdCells at hc
        have huc := hU6.cell
        go_wp2_with fail
        have tW := hA6.toIs hI0 (fun x hx => .inl (hF x hx)) (Keep.of_below hb6)
        have hst := rdStrange_any B b mb m _ _ tW.is_ hi (by omega)
        have hqi := hi.strange
        have hq : q = (m.strange.1, m.strange.1.none, 130) := hq0
        generalize m.strange = st at *
        obtain ⟨ko, ov⟩ := st
        simp only at hst hqi hq
        obtain ⟨of, Hof⟩ : ∃ of, Hid (of = ko.none) := ⟨_, Lib.hid rfl⟩
        have Hf : Hid (q = (ko, of, 130)) := Lib.hid (by rw [Hof.out]; exact hq)
        clear hq hq0
        refine hst.mono ?_
        rintro e W7 ⟨rfl, t7⟩
        have T7 := RDTo.trans hI0 tW t7
        have hs7 := T7.keep.size
        have hno := rdNone_any B b mb ko _ W7 T7.is_ hqi
        rw [← Hof.out] at hno
        clear hc huc hst t7 tW
        go_wp2_with fail
        refine hno.mono ?_
        rintro e W8 ⟨v8, rfl, hown8, hb8⟩
        obtain ⟨A8, c8, rfl⟩ := own_slice hown8
        go_wp2_with fail
        refine bodyPost_ret (v := .tuple #[.slice A8 of.length c8, .int .i64 130]) (by simp [results, Tryz.results58, go_sem]) rfl ?_
        rw [Hf.out]
        exact ⟨_, rfl, own_base hown8 hs7, RDAp.end_ hI0 T7 hb8 hown8⟩
    ·
      have hq0 : q = m.odds 130 := by rw [Hq.out]; unfold DevM.take; rw [if_neg (by simp), if_neg (by dsimp only; omega), if_neg (by dsimp only; omega), if_neg (by dsimp only; omega), if_neg (by dsimp only; omega)]
      clear Hq
      have e0 : decide (number < m.p.count) = false := by simpa using hn
      go_wp2_with fail
      go_big_quiet (fail)
      have hA5 := hA4.below (belowN (Below.refl _ W5) nq)
      have hU5 := hU4.drewN nq
      have hb5 := belowN hb4 nq
      have hr5 := hr4.drewN nq
      generalize W5.drewN nq = W6 at *
      clear hc huc hA4 hU4 hb4 hr4
      have hc := hA5.blk.cell
      unfold rdCells at hc
      have huc := hU5.cell
      go_wp2_with fail
      go_big_quiet (fail)
      have hA6 := hA5.below (belowN (Below.refl _ W6) nq)
      have hU6 := hU5.drewN nq
      have hb6 := belowN hb5 nq
      have hr6 := hr5.drewN nq
      generalize W6.drewN nq = W6b at *
      clear hc huc hA5 hU5 hb5 hr5
      have hc := hA6.blk.cell
      unfold rdCells at hc
      have huc := hU6.cell
      go_wp2_with fail
      have tW := hA6.toIs hI0 (fun x hx => .inl (hF x hx)) (Keep.of_below hb6)
      have hst := rdStrange_any B b mb m _ _ tW.is_ hi (by omega)
      have hqi := hi.strange
      have hq : q = (m.strange.1, m.strange.1.none, 130) := hq0
      generalize m.strange = st at *
      obtain ⟨ko, ov⟩ := st
      simp only at hst hqi hq
      obtain ⟨of, Hof⟩ : ∃ of, Hid (of = ko.none) := ⟨_, Lib.hid rfl⟩
      have Hf : Hid (q = (ko, of, 130)) := Lib.hid (by rw [Hof.out]; exact hq)
      clear hq hq0
      refine hst.mono ?_
      rintro e W7 ⟨rfl, t7⟩
      have T7 := RDTo.trans hI0 tW t7
      have hs7 := T7.keep.size
      have hno := rdNone_any B b mb ko _ W7 T7.is_ hqi
      rw [← Hof.out] at hno
      clear hc huc hst t7 tW
      go_wp2_with fail
      refine hno.mono ?_
      rintro e W8 ⟨v8, rfl, hown8, hb8⟩
      obtain ⟨A8, c8, rfl⟩ := own_slice hown8
      go_wp2_with fail
      refine bodyPost_ret (v := .tuple #[.slice A8 of.length c8, .int .i64 130]) (by simp [results, Tryz.results58, go_sem]) rfl ?_
      rw [Hf.out]
      exact ⟨_, rfl, own_base hown8 hs7, RDAp.end_ hI0 T7 hb8 hown8⟩
end Go.Proofs.YtlldgfejcjnpkaaGreat
