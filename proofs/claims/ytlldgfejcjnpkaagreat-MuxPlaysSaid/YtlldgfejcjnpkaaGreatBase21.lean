/- The base of the laws, part 21: contracts and plain lemmas, no statement. -/
import Derived.Test.YtlldgfejcjnpkaaGreatBase19
set_option linter.unusedVariables false
/- The reference's device takes a unit: kind 1. -/
namespace Go.Proofs.YtlldgfejcjnpkaaGreat
open Go.RowKit
set_option maxHeartbeats 10000000
set_option maxRecDepth 100000
theorem rdUnit_1 (B b mb : Nat) (m : DevM) (F : Nat → Prop) (kind code session number flags : Int) (data : List UInt8) (A : Option Addr) (c Br : Nat) (w : World) (hk : kind = 1) (h : RDTake B w b mb m F ⟨kind, code, session, number, flags, data⟩ A Br) :
    Calls Tryz.prog 58 #[.pointer (some ⟨b, 0, none⟩), unitVal ⟨kind, code, session, number, flags, data⟩ (.slice A data.length c)] w fun e w' => RDAns B w b mb F (m.take ⟨kind, code, session, number, flags, data⟩) e w' := by
  subst hk
  have hI0 := h.is_
  have hi := h.inv
  have hlen := h.len
  have hrd := h.rd
  have hrb := h.rb
  have hd8 := h.d8
  have haf := h.af
  have hok := h.ok
  simp only at hrd hd8
  obtain ⟨q, Hq⟩ : ∃ q, Hid (q = m.take ⟨1, code, session, number, flags, data⟩) := ⟨_, Lib.hid rfl⟩
  rw [← Hq.out]
  obtain ⟨⟨κ, Al, cl, vv, val, cb, hH, hF⟩, hlo⟩ := h.is_
  have hb0 : Below w.heap.size w (w.alloc (.cells #[.int .i64 1, .int .u32 code, .int .u32 session, .int .u32 number, .int .i64 flags, .slice A data.length c] 64)) := (Below.refl _ _).alloc (Nat.le_refl _) _
  have hA1 := hH.below hb0
  have hU1 := Blk.new w 64 #[.int .i64 1, .int .u32 code, .int .u32 session, .int .u32 number, .int .i64 flags, .slice A data.length c]
  have hua : w.heap.size ≠ b := by have := (hH.inF hH.kb).2; omega
  have huF : ∀ x, F x → x ≠ w.heap.size := fun x hx e => by have := (hlo x hx).2; omega
  obtain ⟨u0, Hu0⟩ : ∃ e, Hid (e = w.heap.size) := ⟨_, Lib.hid rfl⟩
  have hsg := fun W => r9sign_any m.p W hi.pok hi.plaw
  unfold parVal at hsg
  obtain ⟨sg, Hsg⟩ : ∃ x, Hid (x = m.p.sign) := ⟨_, Lib.hid rfl⟩
  rw [← Hsg.out] at hsg
  clear h
  unfold RDAns
  unfold unitVal
  simp only
  go_enter Tryz.func58, Tryz.ntmps58
  go_upto_region 1 with fail
  rw [← Hu0.out] at hU1 hua huF ⊢
  generalize w.alloc (.cells _ 64) = W1 at *
  have huc := hU1.cell
  have hr1 := hrd.below (hb0.mono hrb)
  have hs1 := hb0.size
  have hA2 := hA1.drew
  have hU2 := hU1.drew
  have hb2 := hb0.drew
  have hr2 := hr1.drew
  have hbH := hA2.blk
  have hB2 : Br ≤ W1.drew.heap.size := by show Br ≤ W1.heap.size; omega
  go_wp2_with fail
  go_region_held (fun w' => w'.cell? ⟨b, 0, none⟩ = some (.int .u32 m.p.code) ∧ w'.cell? ⟨b, 1, none⟩ = some (.int .i64 m.p.out) ∧ w'.cell? ⟨b, 2, none⟩ = some (.int .i64 m.p.inn) ∧ w'.cell? ⟨b, 3, none⟩ = some (.int .i64 m.p.watch) ∧ w'.cell? ⟨b, 4, none⟩ = some (.int .u32 m.p.count) ∧ w'.cell? ⟨u0, 5, none⟩ = some (.slice A data.length c) ∧ (convert 22 9 (.slice A data.length c)).run Tryz.prog w' = .ok (.string ⟨data.toArray⟩) w') (exact rdS5 hbH hU2 hr2) (first
    | (go_at_call 45; refine (hsg _).mono ?_; rintro e W3 ⟨v3, rfl, hown3, hb3⟩; obtain ⟨A3, c3, hv3⟩ := own_slice hown3; subst hv3; have hcv := conv_reads (c := c3) (Reads.of_own hown3); replace hA2 := hA2.below hb3; clear hbH; have hbH := hA2.blk; replace hU2 := hU2.below hb3 hU2.lt; replace hr2 := hr2.below (hb3.mono hB2); replace hb2 := hb2.trans (hb3.mono hb2.size)))
  clear huc hcv hA1 hU1 hr1
  obtain ⟨sgb, Hsgb⟩ : ∃ x, Hid (x = (data == sg)) := ⟨_, Lib.hid rfl⟩
  rw [← Hsgb.out]
  clear hbH
  have hc := hA2.blk.cell
  unfold rdCells at hc
  have huc := hU2.cell
  go_wp2_with fail
  go_big_quiet (fail)
  have hA3 := hA2.below (belowN (Below.refl _ W3) nq)
  have hU3 := hU2.drewN nq
  have hb3 := belowN hb2 nq
  have hr3 := hr2.drewN nq
  generalize W3.drewN nq = W4 at *
  clear hc huc hA2 hU2 hb2 hr2
  have hc := hA3.blk.cell
  unfold rdCells at hc
  have huc := hU3.cell
  obtain ⟨mi, Hmi⟩ : ∃ x, Hid (x = (session == m.session)) := ⟨_, Lib.hid rfl⟩
  rw [← Hmi.out]
  go_upto_region 3 with fail
  go_cut [8] (fun v8 wc => v8 = .bool (mi && (m.state == 4) && decide (m.number < number)) ∧ ∃ n, wc = W4.drewN n)
  case first =>
    cases mi
    · go_big_quiet (fail)
      go_wp2_with fail
      go_meet
      exact ⟨rfl, _, rfl⟩
    · by_cases h4 : m.state = 4
      · rw [h4] at hc
        go_big_quiet (fail)
        go_wp2_with fail
        go_meet
        exact ⟨by rw [h4]; rfl, _, rfl⟩
      · have g4 : (m.state == 4) = false := by simpa using h4
        go_big_quiet (fail)
        go_wp2_with fail
        go_meet
        exact ⟨by rw [g4]; rfl, _, rfl⟩
  case rest =>
  obtain ⟨rfl, nq, rfl⟩ := hcut
  obtain ⟨mo, Hmo⟩ : ∃ x, Hid (x = (mi && (m.state == 4) && decide (m.number < number))) := ⟨_, Lib.hid rfl⟩
  rw [← Hmo.out]
  have hA4 := hA3.below (belowN (Below.refl _ W4) nq)
  have hU4 := hU3.drewN nq
  have hb4 := belowN hb3 nq
  have hr4 := hr3.drewN nq
  generalize W4.drewN nq = W5 at *
  clear hc huc hA3 hU3 hb3 hr3
  have hc := hA4.blk.cell
  unfold rdCells at hc
  have huc := hU4.cell
  have hs0 : w.heap.size ≤ W5.heap.size := hb4.size
  have Hsd : Hid (sgb = true ↔ data = m.p.sign) := Lib.hid (by rw [Hsgb.out, ← Hsg.out]; simp)
  have Hms : Hid (mi = true ↔ session = m.session) := Lib.hid (by rw [Hmi.out]; simp)
  have Hmm : Hid (mo = true ↔ mi = true ∧ m.state = 4 ∧ m.number < number) := Lib.hid (by rw [Hmo.out]; simp [and_assoc])
  clear Hsgb Hmi Hmo hsg
  have hd8' : data.length ≤ 1000000 := by omega
  have hstr := fun (M : DevM) (G : Nat → Prop) W hW hi hl => rdStrange_any B b mb M G W hW hi hl
  cases sgb
  case false =>
    have hq0 : q = m.odds 91 := by rw [Hq.out]; unfold DevM.take; rw [if_pos rfl, if_neg (fun e => by have := Hsd.out.2 e; simp at this)]
    clear Hq
    go_wp2_with fail
    have tW := hA4.toIs hI0 (fun x hx => .inl (hF x hx)) (Keep.of_below hb4)
    have hst := rdStrange_any B b mb m _ _ tW.is_ hi (by omega)
    have hqi := hi.strange
    have hq : q = (m.strange.1, m.strange.1.none, 91) := hq0
    generalize m.strange = st at *
    obtain ⟨ko, ov⟩ := st
    simp only at hst hqi hq
    obtain ⟨of, Hof⟩ : ∃ of, Hid (of = ko.none) := ⟨_, Lib.hid rfl⟩
    have Hf : Hid (q = (ko, of, 91)) := Lib.hid (by rw [Hof.out]; exact hq)
    clear hq hq0
    refine hst.mono ?_
    rintro e W7 ⟨rfl, t7⟩
    have T7 := RDTo.trans hI0 tW t7
    have hs7 := T7.keep.size
    have hno := rdNone_any B b mb ko _ W7 T7.is_ hqi
    rw [← Hof.out] at hno
    clear hc huc hst t7 tW
    go_wp2_with fail
    refine hno.mono ?_
    rintro e W8 ⟨v8, rfl, hown8, hb8⟩
    obtain ⟨A8, c8, rfl⟩ := own_slice hown8
    go_wp2_with fail
    refine bodyPost_ret (v := .tuple #[.slice A8 of.length c8, .int .i64 91]) (by simp [results, Tryz.results58, go_sem]) rfl ?_
    rw [Hf.out]
    exact ⟨_, rfl, own_base hown8 hs7, RDAp.end_ hI0 T7 hb8 hown8⟩
  case true =>
    have hq : q = m.wish := by rw [Hq.out]; unfold DevM.take; rw [if_pos rfl, if_pos (Hsd.out.1 rfl)]
    have tW := hA4.toIs hI0 (fun x hx => .inl (hF x hx)) (Keep.of_below hb4)
    have hwi := rdWish_any B b mb m _ W5 tW.is_ hi (by omega)
    clear Hq
    go_wp2_with fail
    refine hwi.mono ?_
    rintro e W6 hans
    obtain ⟨x6, rfl, hown6, hap6⟩ := RDAns.of hI0 tW hans
    obtain ⟨A6, c6, rfl⟩ := own_slice hown6
    clear hc huc
    go_wp2_with fail
    refine bodyPost_ret (v := .tuple #[.slice A6 m.wish.2.1.length c6, .int .i64 m.wish.2.2]) (by simp [results, Tryz.results58, go_sem]) rfl ?_
    rw [hq]
    exact ⟨_, rfl, hown6, hap6⟩
end Go.Proofs.YtlldgfejcjnpkaaGreat
/- The reference's device takes a unit: kind o. -/
namespace Go.Proofs.YtlldgfejcjnpkaaGreat
open Go.RowKit
set_option maxHeartbeats 10000000
set_option maxRecDepth 100000
theorem rdUnit_o (B b mb : Nat) (m : DevM) (F : Nat → Prop) (kind code session number flags : Int) (data : List UInt8) (A : Option Addr) (c Br : Nat) (w : World) (k1 : kind ≠ 1) (k2 : kind ≠ 2) (k3 : kind ≠ 3) (k4 : kind ≠ 4) (k5 : kind ≠ 5) (h : RDTake B w b mb m F ⟨kind, code, session, number, flags, data⟩ A Br) :
    Calls Tryz.prog 58 #[.pointer (some ⟨b, 0, none⟩), unitVal ⟨kind, code, session, number, flags, data⟩ (.slice A data.length c)] w fun e w' => RDAns B w b mb F (m.take ⟨kind, code, session, number, flags, data⟩) e w' := by
  have hI0 := h.is_
  have hi := h.inv
  have hlen := h.len
  have hrd := h.rd
  have hrb := h.rb
  have hd8 := h.d8
  have haf := h.af
  have hok := h.ok
  simp only at hrd hd8
  obtain ⟨q, Hq⟩ : ∃ q, Hid (q = m.take ⟨kind, code, session, number, flags, data⟩) := ⟨_, Lib.hid rfl⟩
  rw [← Hq.out]
  obtain ⟨⟨κ, Al, cl, vv, val, cb, hH, hF⟩, hlo⟩ := h.is_
  have hb0 : Below w.heap.size w (w.alloc (.cells #[.int .i64 kind, .int .u32 code, .int .u32 session, .int .u32 number, .int .i64 flags, .slice A data.length c] 64)) := (Below.refl _ _).alloc (Nat.le_refl _) _
  have hA1 := hH.below hb0
  have hU1 := Blk.new w 64 #[.int .i64 kind, .int .u32 code, .int .u32 session, .int .u32 number, .int .i64 flags, .slice A data.length c]
  have hua : w.heap.size ≠ b := by have := (hH.inF hH.kb).2; omega
  have huF : ∀ x, F x → x ≠ w.heap.size := fun x hx e => by have := (hlo x hx).2; omega
  obtain ⟨u0, Hu0⟩ : ∃ e, Hid (e = w.heap.size) := ⟨_, Lib.hid rfl⟩
  have hsg := fun W => r9sign_any m.p W hi.pok hi.plaw
  unfold parVal at hsg
  obtain ⟨sg, Hsg⟩ : ∃ x, Hid (x = m.p.sign) := ⟨_, Lib.hid rfl⟩
  rw [← Hsg.out] at hsg
  clear h
  unfold RDAns
  unfold unitVal
  simp only
  go_enter Tryz.func58, Tryz.ntmps58
  go_upto_region 1 with fail
  rw [← Hu0.out] at hU1 hua huF ⊢
  generalize w.alloc (.cells _ 64) = W1 at *
  have huc := hU1.cell
  have hr1 := hrd.below (hb0.mono hrb)
  have hs1 := hb0.size
  have hA2 := hA1.drew
  have hU2 := hU1.drew
  have hb2 := hb0.drew
  have hr2 := hr1.drew
  have hbH := hA2.blk
  have hB2 : Br ≤ W1.drew.heap.size := by show Br ≤ W1.heap.size; omega
  go_wp2_with fail
  go_region_held (fun w' => w'.cell? ⟨b, 0, none⟩ = some (.int .u32 m.p.code) ∧ w'.cell? ⟨b, 1, none⟩ = some (.int .i64 m.p.out) ∧ w'.cell? ⟨b, 2, none⟩ = some (.int .i64 m.p.inn) ∧ w'.cell? ⟨b, 3, none⟩ = some (.int .i64 m.p.watch) ∧ w'.cell? ⟨b, 4, none⟩ = some (.int .u32 m.p.count) ∧ w'.cell? ⟨u0, 5, none⟩ = some (.slice A data.length c) ∧ (convert 22 9 (.slice A data.length c)).run Tryz.prog w' = .ok (.string ⟨data.toArray⟩) w') (exact rdS5 hbH hU2 hr2) (first
    | (go_at_call 45; refine (hsg _).mono ?_; rintro e W3 ⟨v3, rfl, hown3, hb3⟩; obtain ⟨A3, c3, hv3⟩ := own_slice hown3; subst hv3; have hcv := conv_reads (c := c3) (Reads.of_own hown3); replace hA2 := hA2.below hb3; clear hbH; have hbH := hA2.blk; replace hU2 := hU2.below hb3 hU2.lt; replace hr2 := hr2.below (hb3.mono hB2); replace hb2 := hb2.trans (hb3.mono hb2.size)))
  clear huc hcv hA1 hU1 hr1
  obtain ⟨sgb, Hsgb⟩ : ∃ x, Hid (x = (data == sg)) := ⟨_, Lib.hid rfl⟩
  rw [← Hsgb.out]
  clear hbH
  have hc := hA2.blk.cell
  unfold rdCells at hc
  have huc := hU2.cell
  go_wp2_with fail
  go_big_quiet (fail)
  have hA3 := hA2.below (belowN (Below.refl _ W3) nq)
  have hU3 := hU2.drewN nq
  have hb3 := belowN hb2 nq
  have hr3 := hr2.drewN nq
  generalize W3.drewN nq = W4 at *
  clear hc huc hA2 hU2 hb2 hr2
  have hc := hA3.blk.cell
  unfold rdCells at hc
  have huc := hU3.cell
  obtain ⟨mi, Hmi⟩ : ∃ x, Hid (x = (session == m.session)) := ⟨_, Lib.hid rfl⟩
  rw [← Hmi.out]
  go_upto_region 3 with fail
  go_cut [8] (fun v8 wc => v8 = .bool (mi && (m.state == 4) && decide (m.number < number)) ∧ ∃ n, wc = W4.drewN n)
  case first =>
    cases mi
    · go_big_quiet (fail)
      go_wp2_with fail
      go_meet
      exact ⟨rfl, _, rfl⟩
    · by_cases h4 : m.state = 4
      · rw [h4] at hc
        go_big_quiet (fail)
        go_wp2_with fail
        go_meet
        exact ⟨by rw [h4]; rfl, _, rfl⟩
      · have g4 : (m.state == 4) = false := by simpa using h4
        go_big_quiet (fail)
        go_wp2_with fail
        go_meet
        exact ⟨by rw [g4]; rfl, _, rfl⟩
  case rest =>
  obtain ⟨rfl, nq, rfl⟩ := hcut
  obtain ⟨mo, Hmo⟩ : ∃ x, Hid (x = (mi && (m.state == 4) && decide (m.number < number))) := ⟨_, Lib.hid rfl⟩
  rw [← Hmo.out]
  have hA4 := hA3.below (belowN (Below.refl _ W4) nq)
  have hU4 := hU3.drewN nq
  have hb4 := belowN hb3 nq
  have hr4 := hr3.drewN nq
  generalize W4.drewN nq = W5 at *
  clear hc huc hA3 hU3 hb3 hr3
  have hc := hA4.blk.cell
  unfold rdCells at hc
  have huc := hU4.cell
  have hs0 : w.heap.size ≤ W5.heap.size := hb4.size
  have Hsd : Hid (sgb = true ↔ data = m.p.sign) := Lib.hid (by rw [Hsgb.out, ← Hsg.out]; simp)
  have Hms : Hid (mi = true ↔ session = m.session) := Lib.hid (by rw [Hmi.out]; simp)
  have Hmm : Hid (mo = true ↔ mi = true ∧ m.state = 4 ∧ m.number < number) := Lib.hid (by rw [Hmo.out]; simp [and_assoc])
  clear Hsgb Hmi Hmo hsg
  have hd8' : data.length ≤ 1000000 := by omega
  have hstr := fun (M : DevM) (G : Nat → Prop) W hW hi hl => rdStrange_any B b mb M G W hW hi hl
  have hq0 : q = m.odds 130 := by rw [Hq.out]; unfold DevM.take; rw [if_neg (by dsimp only; omega), if_neg (by dsimp only; omega), if_neg (by dsimp only; omega), if_neg (by dsimp only; omega), if_neg (by dsimp only; omega)]
  clear Hq
  have e1 : (kind == 1) = false := by simpa using k1
  have e2 : (kind == 2) = false := by simpa using k2
  have e3 : (kind == 3) = false := by simpa using k3
  have e4 : (kind == 4) = false := by simpa using k4
  have e5 : (kind == 5) = false := by simpa using k5
  go_wp2_with fail
  go_big_quiet (fail)
  have hA5 := hA4.below (belowN (Below.refl _ W5) nq)
  have hU5 := hU4.drewN nq
  have hb5 := belowN hb4 nq
  have hr5 := hr4.drewN nq
  generalize W5.drewN nq = W6 at *
  clear hc huc hA4 hU4 hb4 hr4
  have hc := hA5.blk.cell
  unfold rdCells at hc
  have huc := hU5.cell
  go_wp2_with fail
  go_big_quiet (fail)
  have hA6 := hA5.below (belowN (Below.refl _ W6) nq)
  have hU6 := hU5.drewN nq
  have hb6 := belowN hb5 nq
  have hr6 := hr5.drewN nq
  generalize W6.drewN nq = W6b at *
  clear hc huc hA5 hU5 hb5 hr5
  have hc := hA6.blk.cell
  unfold rdCells at hc
  have huc := hU6.cell
  go_wp2_with fail
  have tW := hA6.toIs hI0 (fun x hx => .inl (hF x hx)) (Keep.of_below hb6)
  have hst := rdStrange_any B b mb m _ _ tW.is_ hi (by omega)
  have hqi := hi.strange
  have hq : q = (m.strange.1, m.strange.1.none, 130) := hq0
  generalize m.strange = st at *
  obtain ⟨ko, ov⟩ := st
  simp only at hst hqi hq
  obtain ⟨of, Hof⟩ : ∃ of, Hid (of = ko.none) := ⟨_, Lib.hid rfl⟩
  have Hf : Hid (q = (ko, of, 130)) := Lib.hid (by rw [Hof.out]; exact hq)
  clear hq hq0
  refine hst.mono ?_
  rintro e W7 ⟨rfl, t7⟩
  have T7 := RDTo.trans hI0 tW t7
  have hs7 := T7.keep.size
  have hno := rdNone_any B b mb ko _ W7 T7.is_ hqi
  rw [← Hof.out] at hno
  clear hc huc hst t7 tW
  go_wp2_with fail
  refine hno.mono ?_
  rintro e W8 ⟨v8, rfl, hown8, hb8⟩
  obtain ⟨A8, c8, rfl⟩ := own_slice hown8
  go_wp2_with fail
  refine bodyPost_ret (v := .tuple #[.slice A8 of.length c8, .int .i64 130]) (by simp [results, Tryz.results58, go_sem]) rfl ?_
  rw [Hf.out]
  exact ⟨_, rfl, own_base hown8 hs7, RDAp.end_ hI0 T7 hb8 hown8⟩
end Go.Proofs.YtlldgfejcjnpkaaGreat
/- The reference's device: New. -/
namespace Go.Proofs.YtlldgfejcjnpkaaGreat
open Go.RowKit
set_option maxHeartbeats 10000000
set_option maxRecDepth 100000

theorem newκ {d c : Nat} {F : Nat → Prop} (h : d ≠ c) (hd : ¬ F d) (hc : ¬ F c) : ∃ κ : Nat → Option Nat, Of κ 0 d ∧ Of κ 6 c ∧ (∀ x, F x → Of κ 5 x) ∧ ∀ x, κ x ≠ none → x = d ∨ x = c ∨ F x := by
  classical
  refine ⟨fun x => if x = d then some 0 else if x = c then some 6 else if F x then some 5 else none, by simp [Of], by simp [Of, Ne.symm h], fun x hx => ?_, fun x hx => ?_⟩
  · have h1 : x ≠ d := fun e => hd (e ▸ hx)
    have h2 : x ≠ c := fun e => hc (e ▸ hx)
    simp [Of, h1, h2, hx]
  · by_cases h1 : x = d
    · exact .inl h1
    by_cases h2 : x = c
    · exact .inr (.inl h2)
    by_cases h3 : F x
    · exact .inr (.inr h3)
    · simp [h1, h2, h3] at hx
theorem rdNew_any (B mb : Nat) (p : ParM) (m : MemM) (F : Nat → Prop) (mx : Int) (w : World) (ho : p.Ok) (h : RMemIs w mb m F) (hF : ∀ x, F x → B ≤ x ∧ x < w.heap.size) :
    Calls Tryz.prog 14 #[parVal p, .pointer (some ⟨mb, 0, none⟩), .int .u32 mx] w fun e w' => Keep F w w' ∧
      match (DevM.new p m mx).2.1 with
      | some d => ∃ b, e = .returned (.tuple #[.pointer (some ⟨b, 0, none⟩), .int .i64 0]) ∧ RDIs B w' b mb d (grow F w w')
      | none => e = .returned (.tuple #[.pointer none, .int .i64 (DevM.new p m mx).2.2]) := by
  have hfb : F mb := by obtain ⟨row, wr, h⟩ := h; exact h.fb
  have hB : B ≤ w.heap.size := by have := hF mb hfb; omega
  have hchk := fun W => r9lawful_any p W ho
  cases hp : p.lawful with
  | false =>
    have e1 : DevM.new p m mx = (m, none, 90) := by unfold DevM.new; rw [hp]; rfl
    rw [e1]
    rw [hp] at hchk
    unfold parVal at *
    clear e1
    go_enter Tryz.func14, Tryz.ntmps14
    go_wp2_with fail
    refine (hchk _).mono ?_
    rintro e w1 ⟨rfl, hb1⟩
    go_wp2_with fail
    refine bodyPost_ret (v := .tuple #[.pointer none, .int .i64 90]) (by simp [results, Tryz.results14, go_sem]) rfl ⟨?_, rfl⟩
    exact Keep.of_below (((Below.refl _ _).alloc (Nat.le_refl _) _).trans (hb1.mono (by simp)))
  | true =>
    obtain ⟨q, Hq⟩ : ∃ q, Hid (q = DevM.new p m mx) := ⟨_, Lib.hid rfl⟩
    rw [← Hq.out]
    have Hq1 : Hid (q = match openM m mx with
      | (m', some c, _) => (m', some { p, m := m', max := mx, cell := c, value := List.replicate p.inn.toNat 0 }, 0)
      | (m', none, e) => (m', none, e)) := Lib.hid (by rw [Hq.out]; unfold DevM.new; rw [hp]; rfl)
    clear Hq
    have hop := fun W h hF => rOpen_any mb m F mx W h hF
    have hno := @openM_none m mx
    have hso := @openM_some m mx
    generalize openM m mx = r at *
    obtain ⟨M4, co, er⟩ := r
    simp only at hop Hq1 hno hso
    rw [hp] at hchk
    unfold parVal at *
    have hb0 : Below w.heap.size w (w.alloc (.cells #[.int .u32 p.code, .int .i64 p.out, .int .i64 p.inn, .int .i64 p.watch, .int .u32 p.count] 36)) := (Below.refl _ w).alloc (Nat.le_refl _) _
    have hP0 := Blk.new w 36 #[.int .u32 p.code, .int .i64 p.out, .int .i64 p.inn, .int .i64 p.watch, .int .u32 p.count]
    cases co with
    | some k =>
      obtain ⟨_, _, her⟩ := hso (k := k) rfl
      subst her
      have hq : q = (M4, some { p, m := M4, max := mx, cell := k, value := List.replicate p.inn.toNat 0 }, 0) := Hq1.out
      subst hq
      clear hso hno Hq1
      go_enter Tryz.func14, Tryz.ntmps14
      go_wp2_with fail
      refine (hchk _).mono ?_
      rintro e w1 ⟨rfl, hb1⟩
      have hP := hP0.below hb1 hP0.lt
      have hb1' := hb0.trans (hb1.mono hb0.size)
      have hs1 := hb1'.size
      have h1 := h.below hb1'
      have hlt1 : ∀ x, F x → x < w1.heap.size := fun x hx => by have := (hF x hx).2; omega
      have hwF : ¬ F w.heap.size := fun hx => by have := (hF _ hx).2; omega
      clear hb0 hP0 hb1
      go_wp2_with fail
      refine (hop w1 h1 hlt1).mono ?_
      rintro e w2 ⟨⟨hm2, hk2⟩, c, rfl, _, hC, hl1, hl2⟩
      have hP2 := hP.keep hk2 hwF
      have hc := hP2.cell
      have hs2 := hk2.size
      have hk02 : Keep F w w2 := (Keep.of_below hb1').andThen hk2 (fun x _ hx => hx)
      clear hP hchk hop
      go_upto_region 7 with fail
      have hkA := hk02.alloc (.cells #[.int .u32 p.code, .int .i64 p.out, .int .i64 p.inn, .int .i64 p.watch, .int .u32 p.count, .pointer (some ⟨mb, 0, none⟩), .int .u32 mx, .pointer (some ⟨c, 0, none⟩), .slice none 0 0, .int .i64 0, .int .i64 0, .int .i64 0, .bool false, .bool false, .bool false, .int .i64 0, .slice none 0 0, .bool false, .int .i64 0, .int .u32 0, .int .u32 0, .int .u32 0, .int .i64 0, .slice none 0 0, .bool false] 95)
      have hcd : w2.heap.size ≠ c := by omega
      obtain ⟨κ, k0, k6, k5, ks⟩ := newκ (d := w2.heap.size) (c := c) (F := F) hcd (fun hx => by have := (hF _ hx).2; omega) (fun hx => by have := (hF _ hx).2; omega)
      have hbA := (Below.refl w2.heap.size w2).alloc (Nat.le_refl _) (.cells #[.int .u32 p.code, .int .i64 p.out, .int .i64 p.inn, .int .i64 p.watch, .int .u32 p.count, .pointer (some ⟨mb, 0, none⟩), .int .u32 mx, .pointer (some ⟨c, 0, none⟩), .slice none 0 0, .int .i64 0, .int .i64 0, .int .i64 0, .bool false, .bool false, .bool false, .int .i64 0, .slice none 0 0, .bool false, .int .i64 0, .int .u32 0, .int .u32 0, .int .u32 0, .int .i64 0, .slice none 0 0, .bool false] 95)
      have hD := Blk.new w2 95 #[.int .u32 p.code, .int .i64 p.out, .int .i64 p.inn, .int .i64 p.watch, .int .u32 p.count, .pointer (some ⟨mb, 0, none⟩), .int .u32 mx, .pointer (some ⟨c, 0, none⟩), .slice none 0 0, .int .i64 0, .int .i64 0, .int .i64 0, .bool false, .bool false, .bool false, .int .i64 0, .slice none 0 0, .bool false, .int .i64 0, .int .u32 0, .int .u32 0, .int .u32 0, .int .i64 0, .slice none 0 0, .bool false]
      have hz : (w2.alloc (.cells #[.int .u32 p.code, .int .i64 p.out, .int .i64 p.inn, .int .i64 p.watch, .int .u32 p.count, .pointer (some ⟨mb, 0, none⟩), .int .u32 mx, .pointer (some ⟨c, 0, none⟩), .slice none 0 0, .int .i64 0, .int .i64 0, .int .i64 0, .bool false, .bool false, .bool false, .int .i64 0, .slice none 0 0, .bool false, .int .i64 0, .int .u32 0, .int .u32 0, .int .u32 0, .int .i64 0, .slice none 0 0, .bool false] 95)).heap.size = w2.heap.size + 1 := by simp
      generalize w2.alloc (.cells _ 95) = W2 at *
      have hpre : RDPre B W2 w2.heap.size mb p mx [] none 0 M4 k κ c _ _ _ _ _ _ _ _ _ _ _ _ _ _ _ _ := {
        blk := hD
        log := World.ownsRow_nil _ _ _ _
        mem := (hm2.below hbA).keep (S := fun _ => False) (Keep.refl _ _) (fun _ _ h => h) k5
        cell := Blk.below hC hbA hl2
        kb := k0
        kl := fun x hx => by simp [Value.ownBlock] at hx
        kc := k6
        lo := fun x hx => by rcases ks x hx with rfl | rfl | h <;> first | omega | (have := hF x h; omega) }
      have hlife := rdLife_any B w2.heap.size mb p mx [] none 0 M4 k κ c _ _ _ _ _ _ _ _ _ _ _ _ _ _ _ _ 1 W2 hp hpre
      clear hc hpre hP2
      go_wp2_with fail
      refine hlife.mono ?_
      rintro e W3 ⟨rfl, ⟨val, h3⟩, hk3⟩
      have hs3 := hk3.size
      have hK3 : Keep F w W3 := hkA.andThen hk3 (fun x hx e => by omega)
      go_wp2_with fail
      refine bodyPost_ret (v := .tuple #[.pointer (some ⟨w2.heap.size, 0, none⟩), .int .i64 0]) (by simp [results, Tryz.results14, go_sem]) rfl ⟨hK3, _, rfl, ⟨_, none, 0, .slice none 0 0, val, c, h3, ?_⟩, ?_⟩
      · intro x hx
        rcases paint_sub (F := fun x => x = w2.heap.size ∨ x = c ∨ F x) ks x hx with (rfl | rfl | h) | h
        · exact .inr (by omega)
        · exact .inr (by omega)
        · exact .inl h
        · exact .inr (by omega)
      · intro x hx
        rcases hx with h | h
        · have := hF x h; omega
        · omega
    | none =>
      have her := hno rfl
      have hq : q = (M4, none, er) := Hq1.out
      subst hq
      have ger : (er != 0) = true := by simpa using her
      clear hso hno Hq1
      go_enter Tryz.func14, Tryz.ntmps14
      go_wp2_with fail
      refine (hchk _).mono ?_
      rintro e w1 ⟨rfl, hb1⟩
      have hb1' := hb0.trans (hb1.mono hb0.size)
      have hs1 := hb1'.size
      have h1 := h.below hb1'
      have hlt1 : ∀ x, F x → x < w1.heap.size := fun x hx => by have := (hF x hx).2; omega
      clear hb0 hP0 hb1
      go_wp2_with fail
      refine (hop w1 h1 hlt1).mono ?_
      rintro e w2 ⟨⟨hm2, hk2⟩, rfl⟩
      go_wp2_with fail
      refine bodyPost_ret (v := .tuple #[.pointer none, .int .i64 er]) (by simp [results, Tryz.results14, go_sem]) rfl ⟨?_, rfl⟩
      exact (Keep.of_below hb1').andThen hk2 (fun x _ hx => hx)
end Go.Proofs.YtlldgfejcjnpkaaGreat
