/- The base of the laws, part 26: contracts and plain lemmas, no statement. -/
import Derived.Test.YtlldgfejcjnpkaaGreatBase10
import Derived.Test.YtlldgfejcjnpkaaGreatBase21
import Derived.Test.YtlldgfejcjnpkaaGreatBase22
import Derived.Test.YtlldgfejcjnpkaaGreatBase23
import Derived.Test.YtlldgfejcjnpkaaGreatBase25
set_option linter.unusedVariables false
/- The reference's device: unit whole; Receive. -/
namespace Go.Proofs.YtlldgfejcjnpkaaGreat
open Go.RowKit
set_option maxHeartbeats 10000000
set_option maxRecDepth 100000

theorem rdUnit_any (B b mb : Nat) (m : DevM) (F : Nat → Prop) (kind code session number flags : Int) (data : List UInt8) (A : Option Addr) (c Br : Nat) (w : World) (h : RDTake B w b mb m F ⟨kind, code, session, number, flags, data⟩ A Br) :
    Calls Tryz.prog 58 #[.pointer (some ⟨b, 0, none⟩), unitVal ⟨kind, code, session, number, flags, data⟩ (.slice A data.length c)] w fun e w' => RDAns B w b mb F (m.take ⟨kind, code, session, number, flags, data⟩) e w' := by
  by_cases k1 : kind = 1
  · exact rdUnit_1 B b mb m F kind code session number flags data A c Br w k1 h
  by_cases k2 : kind = 2
  · exact rdUnit_2 B b mb m F kind code session number flags data A c Br w k2 h
  by_cases k3 : kind = 3
  · exact rdUnit_3 B b mb m F kind code session number flags data A c Br w k3 h
  by_cases k4 : kind = 4
  · exact rdUnit_4 B b mb m F kind code session number flags data A c Br w k4 h
  by_cases k5 : kind = 5
  · exact rdUnit_5 B b mb m F kind code session number flags data A c Br w k5 h
  · exact rdUnit_o B b mb m F kind code session number flags data A c Br w k1 k2 k3 k4 k5 h
/-- A frame is not cut off by the power. -/
theorem decode_err (l : List UInt8) : (decodeM l).2 ≠ 70 := by
  unfold decodeM
  split
  · simp
  split
  · simp
  split
  · simp
  · simp only
    have h : (if (unitOf l).lawful ≠ 43 ∧ (unitOf l).lawful ≠ 44 ∧ (l.getD 14 0).toNat ≠ (unitOf l).data.length then (45 : Int) else (unitOf l).lawful) ≠ 70 := by
      split
      · simp
      · unfold UnitM.lawful
        split
        · simp
        split
        · simp
        split
        · simp
        split
        · simp
        split
        · simp
        split
        · simp
        · simp
    generalize (if (unitOf l).lawful ≠ 43 ∧ (unitOf l).lawful ≠ 44 ∧ (l.getD 14 0).toNat ≠ (unitOf l).data.length then (45 : Int) else (unitOf l).lawful) = e at h
    split
    · exact h
    · simp
theorem RDAp.onLog {B : Nat} {w W WN : World} {b mb : Nat} {m k k2 : DevM} {F FN : Nat → Prop} {x : Value} {κN : Nat → Option Nat} {AN A2 : Option Addr} {cN c2 : Nat} {vvN valN : Value} {cbN : Nat} (hI0 : RDIs B w b mb m F) (too : RDTo B w b mb k F W) (hFN : ∀ y, κN y ≠ none → FN y) (hloN : ∀ y, FN y → B ≤ y ∧ y < W.heap.size) (hsub : ∀ y, FN y → grow F w W y) (hx : ∀ y, x.ownBlock = some y → ¬ FN y ∧ y < W.heap.size)
    (hN : RDAt B W b mb k κN AN cN vvN valN cbN) (h2 : RDAt B WN b mb k2 (paint κN 1 W WN) A2 c2 vvN valN cbN) (hk2 : Keep (fun y => (Value.slice AN k.log.length cN).ownBlock = some y ∨ y = b) W WN) : RDAp B w b mb k2 F x WN := by
  have s1 := too.keep.size
  have s2 := hk2.size
  have hB : B ≤ W.heap.size := by have := hloN b (hFN b hN.kb.has); omega
  have hS : ∀ y, ((Value.slice AN k.log.length cN).ownBlock = some y ∨ y = b) → FN y := fun y e => e.elim (fun e => hFN y (hN.kl y e).has) (fun e => e ▸ hFN b hN.kb.has)
  have hF2 : ∀ y, paint κN 1 W WN y ≠ none → grow FN W WN y := paint_sub hFN
  have hsub2 : ∀ y, grow FN W WN y → grow F w WN y := fun y hy => hy.elim (fun h => (hsub y h).imp id (fun h => ⟨h.1, by omega⟩)) (fun h => .inr ⟨by omega, h.2⟩)
  refine ⟨⟨⟨⟨_, _, _, _, _, _, h2, fun y hy => hsub2 y (hF2 y hy)⟩, grow_fb hI0.lo hI0.Ble (by omega)⟩, too.keep.andThen hk2 (fun y hl hy => (hsub y (hS y hy)).elim id (fun h => by omega))⟩, grow FN W WN, ⟨⟨_, _, _, _, _, _, h2, hF2⟩, grow_fb hloN hB s2⟩, hsub2, fun y hy hg => ?_⟩
  obtain ⟨h1, h3⟩ := hx y hy
  rcases hg with hg | hg
  · exact h1 hg
  · omega
theorem rdReceive_any (B b mb : Nat) (m : DevM) (F : Nat → Prop) (A : Option Addr) (n c Br : Nat) (l : List UInt8) (w : World) (hI : RDIs B w b mb m F) (hi : m.Inv) (hlen : m.log.length < 1073741700) (hr : Reads w Br 1 A n (u8c l)) (hB : Br ≤ w.heap.size) (hcap : n ≤ c) :
    Calls Tryz.prog 21 #[.pointer (some ⟨b, 0, none⟩), .slice A n c] w fun e w' => RDAns B w b mb F (m.receive l) e w' := by
  have hI0 := hI
  have hlo := hI.lo
  obtain ⟨q, Hq⟩ : ∃ q, Hid (q = m.receive l) := ⟨_, Lib.hid rfl⟩
  rw [← Hq.out]
  unfold RDAns
  obtain ⟨⟨κ, A0, c0, vv, val, cb, hH, hF⟩, _⟩ := id hI
  by_cases h6 : m.state = 6
  · have Hf : Hid (q = (m, [], 70)) := Lib.hid (by rw [Hq.out]; unfold DevM.receive; rw [if_pos h6])
    have hc := hH.blk.cell
    unfold rdCells at hc
    rw [h6] at hc
    clear Hq
    go_enter Tryz.func21, Tryz.ntmps21
    go_wp2_with fail
    refine bodyPost_ret (v := .tuple #[.slice none 0 0, .int .i64 70]) (by simp [results, Tryz.results21, go_sem]) rfl ?_
    rw [Hf.out]
    exact ⟨_, rfl, World.ownsRow_nil _ _ _ _, RDAp.nil_ (RDTo.refl hI0)⟩
  have g6 : (m.state == 6) = false := by simpa using h6
  have Hq2 : Hid (q = if (m.read l).2.2 = 0 ∨ (m.read l).2.2 = 70 then m.read l else ({ (m.read l).1 with log := noteM (m.read l).1.log (m.read l).2.2 (m.read l).1.session (m.read l).1.number }, (m.read l).2.1, (m.read l).2.2)) := Lib.hid (by rw [Hq.out]; unfold DevM.receive; rw [if_neg h6])
  have hrl := dread_log m l
  have hread : m.read l = if (decodeM l).2 ≠ 0 then (m, [], (decodeM l).2) else if !isHost (decodeM l).1.kind then (m, [], 43) else if (decodeM l).1.code ≠ m.p.code then (m, [], 44) else m.take (decodeM l).1 := rfl
  rw [hread] at Hq2 hrl
  clear hread Hq
  have hok := decode_ok l
  have hlw := fun h => (decode_lawful l h).1
  have hne := decode_err l
  have hdec := r4decode_any A n c Br l w hr hB hcap
  generalize decodeM l = d at *
  clear hr
  obtain ⟨⟨kind, code, session, number, flags, data⟩, er⟩ := d
  simp only at *
  have hc := hH.blk.cell
  unfold rdCells at hc
  go_enter Tryz.func21, Tryz.ntmps21
  go_wp2_with fail
  refine hdec.mono ?_
  rintro e w1 ⟨v, rfl, hown, hb1⟩
  obtain ⟨Av, cv, rfl⟩ := own_slice hown
  unfold unitVal
  simp only
  clear hc
  have hbW := hb1.alloc hb1.size (.cells #[.int .i64 kind, .int .u32 code, .int .u32 session, .int .u32 number, .int .i64 flags, .slice Av data.length cv] 64)
  have hs1 := hb1.size
  have hU1 := Blk.new w1 64 #[.int .i64 kind, .int .u32 code, .int .u32 session, .int .u32 number, .int .i64 flags, .slice Av data.length cv]
  have hr1 := (Reads.of_own hown).alloc (Nat.le_refl _) (.cells #[.int .i64 kind, .int .u32 code, .int .u32 session, .int .u32 number, .int .i64 flags, .slice Av data.length cv] 64)
  have haf : ∀ ad, Av = some ad → ¬ F ad.block := fun ad e hx => by
    subst e
    have := (hown.lt ad.block rfl).1
    have := (hlo ad.block hx).2
    omega
  have hz1 : w1.heap.size ≤ (w1.alloc (.cells #[.int .i64 kind, .int .u32 code, .int .u32 session, .int .u32 number, .int .i64 flags, .slice Av data.length cv] 64)).heap.size := by simp
  obtain ⟨u0, Hu0⟩ : ∃ e, Hid (e = w1.heap.size) := ⟨_, Lib.hid rfl⟩
  clear hdec hown hb1
  go_upto_region 4 with fail
  rw [← Hu0.out] at hU1 ⊢
  generalize w1.alloc (.cells _ 64) = W2 at *
  have huc := hU1.cell
  have hhst := fun W => r4host_any kind W
  by_cases he : er = 0
  · subst he
    have hl0 := hlw rfl
    have hd8 := UnitM.lawful_len hl0
    simp only at hd8
    clear hlw hl0 hne
    simp only [ne_eq, not_true_eq_false, if_false] at Hq2 hrl
    cases hdv : isHost kind with
    | false =>
      rw [hdv] at hhst
      have Hf : Hid (q = ({ m with log := noteM m.log 43 m.session m.number }, [], 43)) := Lib.hid (by rw [Hq2.out, hdv]; rfl)
      clear Hq2 hrl
      go_wp2_with (go_at_call 57; refine (hhst _).mono ?_; rintro e w3 ⟨rfl, hw3⟩; rw [hw3]; clear hw3)
      go_big_quiet (fail)
      have hbq := belowN hbW nq
      generalize W2.drewN nq = W3 at *
      clear huc hU1 hr1 hbW
      have hap : RDAp B w b mb m F (.slice none 0 0) W3 := RDAp.nil_ (RDTo.ofBelow hI0 hbq)
      have hox : W3.ownsRow w.heap.size 5 1 (.slice none 0 0) 0 [] := World.ownsRow_nil _ _ _ _
      have hlg : m.log.length < 1073741800 := by omega
      have too := (RDTo.below hI0 hap.too (Below.refl W3.heap.size W3).drew)
      obtain ⟨FN, hIN, hsubN, hxN⟩ := hap.ap
      obtain ⟨⟨κN, AN, cN, vvN, valN, cbN, hN, hFN⟩, hloN⟩ := hIN
      have hxN2 : ∀ y, (.slice none 0 0 : Value).ownBlock = some y → ¬ FN y ∧ y < W3.drew.heap.size := fun y hy => ⟨hxN y hy, (hox.lt y hy).2⟩
      replace hN := hN.drew
      have hbN := hN.blk
      have hlN := hN.logIs
      replace hox := ownsRow_keep (S := fun _ => False) hox (Keep.refl _ W3).drew (fun _ _ h => h)
      have Hlen := Lib.hid hlg
      clear hap hlg
      go_wp2_with fail
      go_region_held3 (fun w' => w'.cell? ⟨b, 19, none⟩ = some (.int .u32 m.session) ∧ w'.cell? ⟨b, 20, none⟩ = some (.int .u32 m.number)) (exact ⟨(rdS hbN).1, (rdS hbN).2⟩) (first
        | (go_at_call 59; refine (refNote_any b 8 _ _ m.log _ 43 m.session m.number _ hlN (by have := Hlen.out; omega)).mono ?_; rintro e WN ⟨rfl, ⟨vN, hl2⟩, hk2⟩; obtain ⟨A2, c2, h2⟩ := hN.onLog hl2 (fun x hx => hx) hk2; clear hbN; have hbN := h2.blk))
      go_wp2_with fail
      refine bodyPost_ret (v := .tuple #[.slice none 0 0, .int .i64 43]) (by simp [results, Tryz.results21, go_sem]) rfl ?_
      rw [Hf.out]
      exact ⟨_, rfl, ownsRow_keep hox hk2 (fun y hy e => (hxN2 y hy).1 (e.elim (fun e => hFN y (hN.kl y e).has) (fun e => e ▸ hFN b hN.kb.has))), RDAp.onLog hI0 too hFN hloN hsubN hxN2 hN h2 hk2⟩
    | true =>
      rw [hdv] at hhst
      simp only [hdv, Bool.not_true, Bool.false_eq_true, if_false] at Hq2 hrl
      have hA2 := hH.below hbW
      have hc := hA2.blk.cell
      unfold rdCells at hc
      by_cases hco : code = m.p.code
      · have gco : (code != m.p.code) = false := by simpa using hco
        have Hq5 : Hid (q = if (m.take ⟨kind, code, session, number, flags, data⟩).2.2 = 0 ∨ (m.take ⟨kind, code, session, number, flags, data⟩).2.2 = 70 then m.take ⟨kind, code, session, number, flags, data⟩ else ({ (m.take ⟨kind, code, session, number, flags, data⟩).1 with log := noteM (m.take ⟨kind, code, session, number, flags, data⟩).1.log (m.take ⟨kind, code, session, number, flags, data⟩).2.2 (m.take ⟨kind, code, session, number, flags, data⟩).1.session (m.take ⟨kind, code, session, number, flags, data⟩).1.number }, (m.take ⟨kind, code, session, number, flags, data⟩).2.1, (m.take ⟨kind, code, session, number, flags, data⟩).2.2)) := Lib.hid (by rw [Hq2.out, if_neg (not_not_intro hco)])
        have hlt : (m.take ⟨kind, code, session, number, flags, data⟩).1.log.length ≤ m.log.length + 3 := by rw [if_neg (not_not_intro hco)] at hrl; exact hrl
        have hun : ∀ W, RDTake B W b mb m F ⟨kind, code, session, number, flags, data⟩ Av w1.heap.size → _ := fun W h => rdUnit_any B b mb m F kind code session number flags data Av cv w1.heap.size W h
        unfold unitVal at hun
        simp only at hun
        clear hco Hq2 hrl
        generalize m.take ⟨kind, code, session, number, flags, data⟩ = t at *
        obtain ⟨m2, ob, rc⟩ := t
        simp only at *
        go_wp2_with (go_at_call 57; refine (hhst _).mono ?_; rintro e w3 ⟨rfl, hw3⟩; rw [hw3]; clear hw3)
        go_big_quiet (fail)
        have hA3 := hA2.below (belowN (Below.refl _ W2) nq)
        have hU3 := hU1.drewN nq
        have hb3 := belowN hbW nq
        have hr3 := hr1.drewN nq
        have hz3 : w1.heap.size ≤ (W2.drewN nq).heap.size := hz1
        generalize W2.drewN nq = W3 at *
        clear hc huc hA2 hU1 hbW hr1 hz1
        have hc := hA3.blk.cell
        unfold rdCells at hc
        have huc := hU3.cell
        have hun3 := hun W3 ⟨⟨⟨κ, A0, c0, vv, val, cb, hA3, hF⟩, fun x hx => by have := hlo x hx; have := hb3.size; omega⟩, hi, ⟨hok.2.2, hok.1, hok.2.1⟩, hr3, hz3, hd8, by omega, haf⟩
        clear hun
        go_wp2_with fail
        refine hun3.mono ?_
        rintro e W4 hans
        obtain ⟨x4, rfl, hox, hap⟩ := RDAns.afterBelow hI0 hb3 hans
        obtain ⟨A4, c4, rfl⟩ := own_slice hox
        clear hc huc hU3 hA3 hun3 hans
        by_cases h0 : rc = 0 ∨ rc = 70
        · have Hf : Hid (q = (m2, ob, rc)) := Lib.hid (by rw [Hq5.out, if_pos h0])
          clear Hq5
          rcases h0 with rfl | rfl
          all_goals
            go_wp2_with fail
            refine bodyPost_ret (v := .tuple #[.slice A4 ob.length c4, .int .i64 _]) (by simp [results, Tryz.results21, go_sem]; rfl) rfl ?_
            rw [Hf.out]
            exact ⟨_, rfl, hox, hap⟩
        · have Hf : Hid (q = ({ m2 with log := noteM m2.log rc m2.session m2.number }, ob, rc)) := Lib.hid (by rw [Hq5.out, if_neg h0])
          have g0 : (rc != 0) = true := by simp; omega
          have g70 : (rc != 70) = true := by simp; omega
          have hlg : m2.log.length < 1073741800 := by omega
          clear Hq5
          have too := (RDTo.below hI0 hap.too (Below.refl W4.heap.size W4).drew)
          obtain ⟨FN, hIN, hsubN, hxN⟩ := hap.ap
          obtain ⟨⟨κN, AN, cN, vvN, valN, cbN, hN, hFN⟩, hloN⟩ := hIN
          have hxN2 : ∀ y, (.slice A4 ob.length c4 : Value).ownBlock = some y → ¬ FN y ∧ y < W4.drew.heap.size := fun y hy => ⟨hxN y hy, (hox.lt y hy).2⟩
          replace hN := hN.drew
          have hbN := hN.blk
          have hlN := hN.logIs
          replace hox := ownsRow_keep (S := fun _ => False) hox (Keep.refl _ W4).drew (fun _ _ h => h)
          have Hlen := Lib.hid hlg
          clear hap hlg
          go_wp2_with fail
          go_region_held3 (fun w' => w'.cell? ⟨b, 19, none⟩ = some (.int .u32 m2.session) ∧ w'.cell? ⟨b, 20, none⟩ = some (.int .u32 m2.number)) (exact ⟨(rdS hbN).1, (rdS hbN).2⟩) (first
            | (go_at_call 59; refine (refNote_any b 8 _ _ m2.log _ rc m2.session m2.number _ hlN (by have := Hlen.out; omega)).mono ?_; rintro e WN ⟨rfl, ⟨vN, hl2⟩, hk2⟩; obtain ⟨A2, c2, h2⟩ := hN.onLog hl2 (fun x hx => hx) hk2; clear hbN; have hbN := h2.blk))
          go_wp2_with fail
          refine bodyPost_ret (v := .tuple #[.slice A4 ob.length c4, .int .i64 rc]) (by simp [results, Tryz.results21, go_sem]) rfl ?_
          rw [Hf.out]
          exact ⟨_, rfl, ownsRow_keep hox hk2 (fun y hy e => (hxN2 y hy).1 (e.elim (fun e => hFN y (hN.kl y e).has) (fun e => e ▸ hFN b hN.kb.has))), RDAp.onLog hI0 too hFN hloN hsubN hxN2 hN h2 hk2⟩
      · have gco : (code != m.p.code) = true := by simpa using hco
        have Hf : Hid (q = ({ m with log := noteM m.log 44 m.session m.number }, [], 44)) := Lib.hid (by rw [Hq2.out, if_pos hco]; rfl)
        clear hco Hq2 hrl
        go_wp2_with (go_at_call 57; refine (hhst _).mono ?_; rintro e w3 ⟨rfl, hw3⟩; rw [hw3]; clear hw3)
        go_big_quiet (fail)
        have hbq := belowN hbW nq
        generalize W2.drewN nq = W3 at *
        clear hc huc hU1 hr1 hbW hA2
        have hap : RDAp B w b mb m F (.slice none 0 0) W3 := RDAp.nil_ (RDTo.ofBelow hI0 hbq)
        have hox : W3.ownsRow w.heap.size 5 1 (.slice none 0 0) 0 [] := World.ownsRow_nil _ _ _ _
        have hlg : m.log.length < 1073741800 := by omega
        have too := (RDTo.below hI0 hap.too (Below.refl W3.heap.size W3).drew)
        obtain ⟨FN, hIN, hsubN, hxN⟩ := hap.ap
        obtain ⟨⟨κN, AN, cN, vvN, valN, cbN, hN, hFN⟩, hloN⟩ := hIN
        have hxN2 : ∀ y, (.slice none 0 0 : Value).ownBlock = some y → ¬ FN y ∧ y < W3.drew.heap.size := fun y hy => ⟨hxN y hy, (hox.lt y hy).2⟩
        replace hN := hN.drew
        have hbN := hN.blk
        have hlN := hN.logIs
        replace hox := ownsRow_keep (S := fun _ => False) hox (Keep.refl _ W3).drew (fun _ _ h => h)
        have Hlen := Lib.hid hlg
        clear hap hlg
        go_wp2_with fail
        go_region_held3 (fun w' => w'.cell? ⟨b, 19, none⟩ = some (.int .u32 m.session) ∧ w'.cell? ⟨b, 20, none⟩ = some (.int .u32 m.number)) (exact ⟨(rdS hbN).1, (rdS hbN).2⟩) (first
          | (go_at_call 59; refine (refNote_any b 8 _ _ m.log _ 44 m.session m.number _ hlN (by have := Hlen.out; omega)).mono ?_; rintro e WN ⟨rfl, ⟨vN, hl2⟩, hk2⟩; obtain ⟨A2, c2, h2⟩ := hN.onLog hl2 (fun x hx => hx) hk2; clear hbN; have hbN := h2.blk))
        go_wp2_with fail
        refine bodyPost_ret (v := .tuple #[.slice none 0 0, .int .i64 44]) (by simp [results, Tryz.results21, go_sem]) rfl ?_
        rw [Hf.out]
        exact ⟨_, rfl, ownsRow_keep hox hk2 (fun y hy e => (hxN2 y hy).1 (e.elim (fun e => hFN y (hN.kl y e).has) (fun e => e ▸ hFN b hN.kb.has))), RDAp.onLog hI0 too hFN hloN hsubN hxN2 hN h2 hk2⟩
  · have h70 : er ≠ 70 := hne
    have Hf : Hid (q = ({ m with log := noteM m.log er m.session m.number }, [], er)) := Lib.hid (by rw [Hq2.out, if_pos he]; simp only; rw [if_neg (by omega)])
    have g0 : (er == 0) = false := by simpa using he
    have g1 : (er != 0) = true := by simpa using he
    have g2 : (er != 70) = true := by simpa using h70
    clear Hq2 hrl hlw
    go_wp2_with fail
    go_big_quiet (fail)
    have hbq := belowN hbW nq
    generalize W2.drewN nq = W3 at *
    clear huc hU1 hr1 hbW
    have hap : RDAp B w b mb m F (.slice none 0 0) W3 := RDAp.nil_ (RDTo.ofBelow hI0 hbq)
    have hox : W3.ownsRow w.heap.size 5 1 (.slice none 0 0) 0 [] := World.ownsRow_nil _ _ _ _
    have hlg : m.log.length < 1073741800 := by omega
    have too := (RDTo.below hI0 hap.too (Below.refl W3.heap.size W3).drew)
    obtain ⟨FN, hIN, hsubN, hxN⟩ := hap.ap
    obtain ⟨⟨κN, AN, cN, vvN, valN, cbN, hN, hFN⟩, hloN⟩ := hIN
    have hxN2 : ∀ y, (.slice none 0 0 : Value).ownBlock = some y → ¬ FN y ∧ y < W3.drew.heap.size := fun y hy => ⟨hxN y hy, (hox.lt y hy).2⟩
    replace hN := hN.drew
    have hbN := hN.blk
    have hlN := hN.logIs
    replace hox := ownsRow_keep (S := fun _ => False) hox (Keep.refl _ W3).drew (fun _ _ h => h)
    have Hlen := Lib.hid hlg
    clear hap hlg
    go_wp2_with fail
    go_region_held3 (fun w' => w'.cell? ⟨b, 19, none⟩ = some (.int .u32 m.session) ∧ w'.cell? ⟨b, 20, none⟩ = some (.int .u32 m.number)) (exact ⟨(rdS hbN).1, (rdS hbN).2⟩) (first
      | (go_at_call 59; refine (refNote_any b 8 _ _ m.log _ er m.session m.number _ hlN (by have := Hlen.out; omega)).mono ?_; rintro e WN ⟨rfl, ⟨vN, hl2⟩, hk2⟩; obtain ⟨A2, c2, h2⟩ := hN.onLog hl2 (fun x hx => hx) hk2; clear hbN; have hbN := h2.blk))
    go_wp2_with fail
    refine bodyPost_ret (v := .tuple #[.slice none 0 0, .int .i64 er]) (by simp [results, Tryz.results21, go_sem]) rfl ?_
    rw [Hf.out]
    exact ⟨_, rfl, ownsRow_keep hox hk2 (fun y hy e => (hxN2 y hy).1 (e.elim (fun e => hFN y (hN.kl y e).has) (fun e => e ▸ hFN b hN.kb.has))), RDAp.onLog hI0 too hFN hloN hsubN hxN2 hN h2 hk2⟩
end Go.Proofs.YtlldgfejcjnpkaaGreat
