/- The walk of DeviceGivesUp. -/
import Derived.Test.YtbkkfkbgcklkgaaGreatCDLaw
import Derived.Test.YtbkkfkbgcklkgaaGreatCDGivesM
import Derived.Deep.RegionHeld3
import Derived.Deep.RegionHeld
namespace Go.Proofs.YtbkkfkbgcklkgaaGreat
open Go.RowKit
set_option maxHeartbeats 10000000
set_option maxRecDepth 100000

theorem end_sessionD (a0 a1 a2 a3 a4 a5 a6 a7 a8 : Value) (W : World) : (Instr.field 52 (.agg #[a0, a1, a2, a3, a4, a5, a6, a7, a8]) 1).run Tryz.prog W = .ok a1 W := by
  unfold Instr.field
  simp only [Sem.run_bind, run_underlying Tryz.underlying52, Result.andThen]
  have hagg : (isAgg 33).run Tryz.prog W = .ok false W := by kernel_rfl
  show Sem.run _ (do let l ← asAgg (Value.agg #[a0, a1, a2, a3, a4, a5, a6, a7, a8]); part 33 l 1) W = _
  simp [Sem.run_bind, asAgg, part, hagg, Sem.run_pure]
theorem endS01 {w : World} {g : Nat} {x0 x1 x2 x3 x4 x5 x6 x7 x8 : Value} (h : Blk w g 52 #[x0, x1, x2, x3, x4, x5, x6, x7, x8]) : w.cell? ⟨g, 0, none⟩ = some x0 ∧ w.cell? ⟨g, 1, none⟩ = some x1 := ⟨(h.cell 0).trans rfl, (h.cell 1).trans rfl⟩
theorem upsS_log (d : DevM) : ∀ k, (d.upsS k).log.length ≤ d.log.length + 4 * k
  | 0 => by simp [DevM.upsS]
  | k + 1 => by have h1 := upsS_log d k; have h2 := stepD_log (d.upsS k) (DevM.upOp (k + 1)); show (stepD (d.upsS k) (DevM.upOp (k + 1))).log.length ≤ _; omega
theorem oddsS_log (d : DevM) : ∀ k, (d.oddsS k).log.length ≤ d.log.length + 4 * k
  | 0 => by simp [DevM.oddsS]
  | k + 1 => by have h1 := oddsS_log d k; have h2 := stepD_log (d.oddsS k) DevM.oddOp; show (stepD (d.oddsS k) DevM.oddOp).log.length ≤ _; omega
theorem asksS_log (d : DevM) : ∀ k, (d.asksS k).log.length ≤ d.log.length + 4 * k
  | 0 => by simp [DevM.asksS]
  | k + 1 => by have h1 := asksS_log d k; have h2 := stepD_log (d.asksS k) DevM.askOp; show (stepD (d.asksS k) DevM.askOp).log.length ≤ _; omega
theorem givesUpS_facts {far odd : Nat} (hf : far < 4) (ho : odd < 4) : (((DevM.first 99).upsS (far + 1)).oddsS odd).state = ((DevM.first 99).upsS (far + 1)).state ∧ (((DevM.first 99).upsS (far + 1)).oddsS odd).session = ((DevM.first 99).upsS (far + 1)).session ∧ ((((DevM.first 99).upsS (far + 1)).oddsS odd).asksS (4 - odd)).state = 2 ∧ ((((DevM.first 99).upsS (far + 1)).oddsS odd).asksS (4 - odd)).session = ((DevM.first 99).upsS (far + 1)).session + 1 ∧ ((DevM.first 99).upsS (far + 1)).session = 1 ∧ (((((DevM.first 99).upsS (far + 1)).oddsS odd).asksS (4 - odd)).valve.latched == 131) = (((DevM.first 99).upsS (far + 1)).state == 4) := by
  have h := DevM.givesUpS_small far hf odd ho
  unfold DevM.givesUpS at h
  simpa using h
theorem deviceGives_law (odd far : Int) (w : World) :
    Calls Tryz.prog 7 #[.int .i64 odd, .int .i64 far] w fun e w' => e = .returned (.bool true) ∧ Below w.heap.size w w' := by
  obtain ⟨r, Hr⟩ : ∃ r, Hid (r = (far % 18446744073709551616).toNat % 4) := ⟨_, Lib.hid rfl⟩
  have hr4 : r < 4 := by rw [Hr.out]; exact Nat.mod_lt _ (by omega)
  have hrem : wrap64 ((IntKind.u64.wrap far).tmod 4) = (r : Int) := rem_u64 (R := 4) (by omega) (by omega) Hr.out
  obtain ⟨t, Ht⟩ : ∃ r, Hid (r = (odd % 18446744073709551616).toNat % 4) := ⟨_, Lib.hid rfl⟩
  have ht4 : t < 4 := by rw [Ht.out]; exact Nat.mod_lt _ (by omega)
  have hrem2 : wrap64 ((IntKind.u64.wrap odd).tmod 4) = (t : Int) := rem_u64 (R := 4) (by omega) (by omega) Ht.out
  obtain ⟨c1, c2, c3, c4, c5, c6⟩ := givesUpS_facts hr4 ht4
  have lgA : ∀ j, ((DevM.first 99).upsS j).log.length ≤ 4 * j := fun j => by have := upsS_log (DevM.first 99) j; simpa [DevM.first] using this
  have lgB := oddsS_log ((DevM.first 99).upsS (r + 1))
  have lgC := asksS_log (((DevM.first 99).upsS (r + 1)).oddsS t)
  have HC := Lib.hid c1
  have HC2 := Lib.hid c2
  have HC3 := Lib.hid c3
  have HC4 := Lib.hid c4
  have HC5 := Lib.hid c5
  have HC6 := Lib.hid c6
  clear c1 c2 c3 c4 c5 c6
  go_enter Tryz.func7, Tryz.ntmps7
  go_wp2_with fail
  refine (lawAwakeD_any _).mono ?_
  rintro e w1 ⟨rfl, hb1'⟩
  go_wp2_with fail
  refine (memNew16_any w1).mono ?_
  rintro e w2 ⟨ma, rfl, hM2, hb2⟩
  have hz1 := hb1'.size
  have hb2' := hb1'.trans (hb2.mono hz1)
  go_wp2_with fail
  refine (rmemNew16_any w2).mono ?_
  rintro e w3 ⟨mb, rfl, hM3, hb3⟩
  have hb3' := hb2'.trans (hb3.mono hb2'.size)
  obtain ⟨F1, F2, hMs⟩ := mems_new hM2 hb2 hM3 hb3
  have hz3 : w1.heap.size ≤ w3.heap.size := Nat.le_trans hb2.size hb3.size
  have hq3 := hb2.trans (hb3.mono hb2.size)
  clear hM2 hM3 hb2 hb3 hb2'
  go_wp2_with fail
  refine (lawSmall_any w3).mono ?_
  rintro e w4 ⟨rfl, hb4⟩
  have hMs4 := hMs.below hb4
  have hb4' := hb3'.trans (hb4.mono hb3'.size)
  have hz4 : w1.heap.size ≤ w4.heap.size := Nat.le_trans hz3 hb4.size
  have hq4 := hq3.trans (hb4.mono hz3)
  clear hMs hb4 hb3' hq3
  unfold parVal smallM
  simp only
  go_wp2_with fail
  refine (devFirst_any ma F1 w1.heap.size 99 w4 hMs4.m1 hMs4.lo1 hz4 ⟨by decide, by decide⟩).mono ?_
  rintro e w5 ⟨a, F3, rfl, hI5, hk5, hs5⟩
  obtain ⟨hM5, hlo5, hdj5⟩ := hMs4.dev hk5 hs5
  have hq5 : Below w1.heap.size w1 w5 := hq4.trans (hk5.below hz4 (fun x hx => (hMs4.lo1 x hx).1))
  clear hMs4 hk5 hs5 hq4 hb4'
  go_wp2_with fail
  refine (lawSmall_any w5).mono ?_
  rintro e w6 ⟨rfl, hb6⟩
  have hI6 := hI5.below hb6
  have hM6 := hM5.below hb6
  have hlo6 : ∀ x, F2 x → w1.heap.size ≤ x ∧ x < w6.heap.size := fun x hx => by have := hlo5 x hx; have := hb6.size; omega
  have hz6 : w1.heap.size ≤ w6.heap.size := Nat.le_trans hq5.size hb6.size
  have hq6 := hq5.trans (hb6.mono hq5.size)
  clear hI5 hM5 hlo5 hb6 hq5
  unfold parVal smallM
  simp only
  go_wp2_with fail
  refine (rdFirst_any mb F2 w1.heap.size 99 w6 hM6 hlo6 (by decide)).mono ?_
  rintro e w7 ⟨b, rfl, hR7, hk7⟩
  have hT := two_newD (first_inv 99 ⟨by decide, by decide⟩) hI6 hdj5 hR7 hk7
  have hq7 : Below w1.heap.size w1 w7 := hq6.trans (hk7.below hz6 (fun x hx => (hlo6 x hx).1))
  have hb7' := hb1'.trans (hq7.mono hz1)
  clear hM6 hlo6 hI6 hdj5 hR7 hk7 hq6
  generalize hA0 : (fun x => F3 x ∨ grow F2 w6 w7 x) = T0 at hT
  clear hA0
  go_wp2_with fail
  go_loopg [13] 5 (fun q v13 wr => ∃ (i : Nat) (T : Nat → Prop), v13 = .int .i64 i ∧ 1 ≤ i ∧ i ≤ r + 2 ∧ i + q = 6 ∧ TwoD w1.heap.size wr a ma b mb ((DevM.first 99).upsS (i - 1)) T ∧ Below w1.heap.size w1 wr)
  case atStart => exact ⟨1, T0, rfl, by omega, by omega, by omega, hT, hq7⟩
  case round =>
    clear hT hb7' hq7
    obtain ⟨i, T, rfl, hi1, hi2, hq, hT, hQ⟩ := hrel
    by_cases hlt : i ≤ r + 1
    · have f1 : ((i : Int) ≤ 4) := by omega
      have f2 : ((i : Int) ≤ 1 + (r : Int)) := by omega
      have fw : IntKind.i64.wrap (1 + (r : Int)) = 1 + (r : Int) := IntWalk.i64_in _ (by omega)
      have hm : (DevM.first 99).upsS (i - 1 + 1) = stepD ((DevM.first 99).upsS (i - 1)) (DevM.upOp (i : Int)) := by
        show stepD ((DevM.first 99).upsS (i - 1)) (DevM.upOp (((i - 1 : Nat) : Int) + 1)) = _
        rw [show ((i - 1 : Nat) : Int) + 1 = (i : Int) by omega]
      have hlg := lgA (i - 1)
      have hbD := (Below.refl wr.heap.size wr).alloc (Nat.le_refl _) (.cells #[.int .u8 5, .int .u8 6] 5)
      have hD := Blk.new wr 5 #[.int .u8 5, .int .u8 6]
      have hlt0 := hT.lt
      have hT1 := hT.below hbD
      have hQ1 := hQ.trans (hbD.mono hT.Ble)
      have hrd : Reads (wr.alloc (.cells #[.int .u8 5, .int .u8 6] 5)) (wr.alloc (.cells #[.int .u8 5, .int .u8 6] 5)).heap.size 1 (some ⟨wr.heap.size, 0, none⟩) 2 (u8c [5, 6]) := Reads.of_blk hD hD.lt rfl
      have hst := two_stepD hT1 (by omega) (DevM.upOp (i : Int)) (some ⟨wr.heap.size, 0, none⟩) 2 ⟨by simp [DevM.upOp], by simp [DevM.upOp], by simp [DevM.upOp]⟩ hrd (fun _ ad e => .inr (fun h => by injection e with e; subst e; have := hlt0 _ h; simp at this)) (by simp [DevM.upOp]) (by simp [DevM.upOp])
      rw [← hm] at hst
      unfold opVal DevM.upOp at hst
      simp only [List.length_cons, List.length_nil, Nat.zero_add, Nat.reduceAdd] at hst
      have Hq := Lib.hid hq
      have Hi := Lib.hid (And.intro hi1 hlt)
      clear hq hm hlg hbD hD hT hQ hrd hlt0 hi1 hi2 hlt
      go_wp2_with fail
      refine hst.mono ?_
      rintro e w8 ⟨rfl, hT8, hk8, hb8⟩
      have hQ8 := hQ1.trans hb8
      clear hst
      go_wp2_with fail
      go_roundg (6 - (i + 1))
      case measure => have := Hq.out; have := Hi.out; omega
      case rel =>
        have h1 := Hq.out
        have h2 := Hi.out
        exact ⟨i + 1, _, by go_num, by omega, by omega, by omega, (by rw [show i + 1 - 1 = i - 1 + 1 by omega]; exact hT8), hQ8⟩
    · have hi3 : i = r + 2 := by omega
      subst hi3
      rw [show r + 2 - 1 = r + 1 by omega] at hT
      have hlg := lgA (r + 1)
      have hltW := hT.lt
      have hseeA := two_seeD hT
      have hsA : ((DevM.first 99).upsS (r + 1)).see.session = 1 := HC5.out
      unfold endVal at hseeA
      rw [hsA] at hseeA
      have hfl0 := end_state
      have hfl1 := end_sessionD
      have fw : IntKind.i64.wrap (1 + (r : Int)) = 1 + (r : Int) := IntWalk.i64_in _ (by omega)
      clear hq hi1 hi2 hlt hsA
      obtain ⟨W0, rfl⟩ : ∃ W : World, W = wr := ⟨_, rfl⟩
      go_upto_region 10 with fail
      go_cut [57] (fun v wc => v = .bool false ∧ wc = W0)
      case first =>
        by_cases h3 : r = 3
        · have f1 : ¬ ((r : Int) + 2 ≤ 4) := by omega
          clear h3
          go_wp2_with fail
          go_meet
          exact ⟨rfl, rfl⟩
        · have f1 : ((r : Int) + 2 ≤ 4) := by omega
          have f2 : ¬ ((r : Int) + 2 ≤ 1 + (r : Int)) := by omega
          go_wp2_with fail
          go_meet
          exact ⟨by simp, rfl⟩
      case rest =>
      obtain ⟨rfl, hwc⟩ := hcut
      subst hwc
      generalize hAe : (DevM.first 99).upsS (r + 1) = dA at *
      go_wp2_with fail
      refine hseeA.mono ?_
      rintro e w8 ⟨x8, rfl, hown8, hb8⟩
      obtain ⟨A8, c8, rfl⟩ := own_slice hown8
      have hT8 := hT.below hb8
      have hQ8 := hQ.trans (hb8.mono hT.Ble)
      have hbE := (Below.refl w8.heap.size w8).alloc (Nat.le_refl _) (.cells #[.int .i64 dA.see.state, .int .u32 1, .int .u32 dA.see.number, .int .u32 dA.see.sent, .int .i64 dA.see.since, .int .i64 dA.see.latched, .bool dA.see.request, .bool dA.see.on, .slice A8 dA.see.out.length c8] 52)
      have hE := Blk.new w8 52 #[.int .i64 dA.see.state, .int .u32 1, .int .u32 dA.see.number, .int .u32 dA.see.sent, .int .i64 dA.see.since, .int .i64 dA.see.latched, .bool dA.see.request, .bool dA.see.on, .slice A8 dA.see.out.length c8]
      have hT9 := hT8.below hbE
      have hQ9 := hQ8.trans (hbE.mono hT8.Ble)
      have hlt8 := hT8.lt
      clear hseeA hT hT8 hQ hQ8 hown8 hlt8
      have hltT : ∀ x, T x → x < w8.heap.size := fun x hx => by have := hltW x hx; have := hb8.size; omega
      go_upto_region 15 with fail
      obtain ⟨gE, HgE⟩ : ∃ g, Hid (g = w8.heap.size) := ⟨_, Lib.hid rfl⟩
      have hTE : ¬ T gE := fun h => by have h1 := hltT _ h; have h3 := HgE.out; omega
      rw [← HgE.out] at hE ⊢
      generalize w8.alloc (.cells _ 52) = w9 at *
      have hel := hE.lt
      clear hb8 hltT hltW hbE
      go_wp2_with fail
      simp only [hrem2]
      go_loopg [16] 5 (fun q v16 wr => ∃ (i : Nat) (T : Nat → Prop), v16 = .int .i64 i ∧ i ≤ t ∧ i + q = 5 ∧ TwoD w1.heap.size wr a ma b mb (dA.oddsS i) T ∧ Below w1.heap.size w1 wr ∧ ¬ T gE ∧ gE < wr.heap.size ∧ Blk wr gE 52 #[.int .i64 dA.see.state, .int .u32 1, .int .u32 dA.see.number, .int .u32 dA.see.sent, .int .i64 dA.see.since, .int .i64 dA.see.latched, .bool dA.see.request, .bool dA.see.on, .slice A8 dA.see.out.length c8])
      case atStart => exact ⟨0, T, rfl, by omega, by omega, hT9, hQ9, hTE, hel, hE⟩
      case round =>
        clear hT9 hQ9 hTE hel hE
        obtain ⟨i, T, rfl, hi2, hq, hT, hQ, hTE, hel, hE⟩ := hrel
        have hlg2 := lgB i
        by_cases hlt : i < t
        · have hst := two_stepD hT (by omega) DevM.oddOp none 0 ⟨by simp [DevM.oddOp], by simp [DevM.oddOp], by simp [DevM.oddOp]⟩ Reads.none_ (fun h => absurd h (by simp [DevM.oddOp])) (by simp [DevM.oddOp]) (by simp [DevM.oddOp])
          rw [show stepD (dA.oddsS i) DevM.oddOp = dA.oddsS (i + 1) from rfl] at hst
          unfold opVal DevM.oddOp at hst
          simp only [List.length_nil] at hst
          have Hq := Lib.hid hq
          have Hl := Lib.hid hlt
          have Hel := Lib.hid hel
          have f1 : ((i : Int) < (t : Int)) := by omega
          clear hq hlg2 hlt hi2 hel
          go_wp2_with fail
          refine hst.mono ?_
          rintro e w10 ⟨rfl, hT10, hk10, hb10⟩
          have hQ10 := hQ.trans hb10
          have hE10 := hE.keep hk10 hTE
          have hTE10 : ¬ grow T wr w10 gE := fun h => h.elim hTE (fun h => by have := Hel.out; omega)
          have hel10 : gE < w10.heap.size := Nat.lt_of_lt_of_le Hel.out hk10.size
          clear hst
          go_wp2_with fail
          go_roundg (5 - (i + 1))
          case measure => have := Hq.out; have := Hl.out; omega
          case rel =>
            have h1 := Hq.out
            have h2 := Hl.out
            exact ⟨i + 1, _, by go_num, by omega, by omega, hT10, hQ10, hTE10, hel10, hE10⟩
        · have hi3 : i = t := by omega
          subst hi3
          have f1 : ¬ ((i : Int) < (i : Int)) := by omega
          obtain ⟨sB, hsB⟩ : ∃ sB, sB = (dA.oddsS i).see := ⟨_, rfl⟩
          have hs0 : sB.state = dA.see.state := by rw [hsB]; exact HC.out
          have hs1 : sB.session = 1 := by rw [hsB]; exact HC2.out.trans HC5.out
          have hsee := fun (W : World) (h : TwoD w1.heap.size W a ma b mb (dA.oddsS i) T) => two_seeD h
          rw [← hsB] at hsee
          clear hsB hi2 hlt hq hlg
          obtain ⟨bst, bses, bnum, bsnt, bsnc, blat, breq, bon, bout⟩ := sB
          unfold endVal at hsee
          simp only at hs0 hs1 hsee
          subst hs0 hs1
          have Hel := Lib.hid hel
          clear hel
          go_upto_region 21 with fail
          replace hE := hE.drew
          replace hT := hT.below (Below.refl wr.heap.size wr).drew
          replace hQ := hQ.drew
          go_wp2_with fail
          go_region_held (fun w' => w'.cell? ⟨gE, 0, none⟩ = some (.int .i64 dA.see.state) ∧ w'.cell? ⟨gE, 1, none⟩ = some (.int .u32 1)) (exact endS01 hE) (first
            | (go_at_call 21; refine (hsee _ hT).mono ?_; rintro e w13 ⟨x13, rfl, hown13, hb13⟩; obtain ⟨A13, c13, hx13⟩ := own_slice hown13; subst hx13; replace hE := hE.below hb13 hE.lt; replace hQ := hQ.trans (hb13.mono hT.Ble); replace hT := hT.below hb13))
          have Hlg2 := Lib.hid hlg2
          clear hsee hlg2
          go_wp2_with fail
          have Hel2 := hE.lt
          have hTE2 : ¬ T gE := hTE
          have hQd := hQ
          go_loopg [17] 5 (fun q v17 wr => ∃ (j : Nat) (T : Nat → Prop), v17 = .int .i64 j ∧ i ≤ j ∧ j ≤ 4 ∧ j + q = i + 5 ∧ TwoD w1.heap.size wr a ma b mb ((dA.oddsS i).asksS (j - i)) T ∧ Below w1.heap.size w1 wr ∧ ¬ T gE ∧ gE < wr.heap.size ∧ Blk wr gE 52 #[.int .i64 dA.see.state, .int .u32 1, .int .u32 dA.see.number, .int .u32 dA.see.sent, .int .i64 dA.see.since, .int .i64 dA.see.latched, .bool dA.see.request, .bool dA.see.on, .slice A8 dA.see.out.length c8])
          case atStart => exact ⟨i, T, rfl, by omega, by omega, by omega, (by rw [show i - i = 0 by omega]; exact hT), hQ, hTE2, Hel2, hE⟩
          case round =>
            clear hT hQ hTE hTE2 hE hQd Hel2 Hel
            obtain ⟨j, T, rfl, hij, hj4, hq, hT, hQ, hTE, hel, hE⟩ := hrel
            have hlg3 := lgC (j - i)
            have hlgi := Hlg2.out
            have hA4 := lgA (r + 1)
            rw [hAe] at hA4
            by_cases hlt : j < 4
            · have hst := two_stepD hT (by omega) DevM.askOp none 0 ⟨by simp [DevM.askOp], by simp [DevM.askOp], by simp [DevM.askOp]⟩ Reads.none_ (fun h => absurd h (by simp [DevM.askOp])) (by simp [DevM.askOp]) (by simp [DevM.askOp])
              rw [show stepD ((dA.oddsS i).asksS (j - i)) DevM.askOp = (dA.oddsS i).asksS (j - i + 1) from rfl] at hst
              unfold opVal DevM.askOp at hst
              simp only [List.length_nil] at hst
              have Hq := Lib.hid hq
              have Hl := Lib.hid (And.intro hlt hij)
              have Hel := Lib.hid hel
              have f1 : ((j : Int) < 4) := by omega
              clear hq hlg3 hlgi hA4 hlt hij hj4 hel
              go_wp2_with fail
              refine hst.mono ?_
              rintro e w15 ⟨rfl, hT15, hk15, hb15⟩
              have hQ15 := hQ.trans hb15
              have hE15 := hE.keep hk15 hTE
              have hTE15 : ¬ grow T wr w15 gE := fun h => h.elim hTE (fun h => by have := Hel.out; omega)
              have hel15 : gE < w15.heap.size := Nat.lt_of_lt_of_le Hel.out hk15.size
              clear hst
              go_wp2_with fail
              go_roundg (i + 5 - (j + 1))
              case measure => have := Hq.out; have := Hl.out; omega
              case rel =>
                have h1 := Hq.out
                have h2 := Hl.out
                exact ⟨j + 1, _, by go_num, by omega, by omega, by omega, (by rw [show j + 1 - i = j - i + 1 by omega]; exact hT15), hQ15, hTE15, hel15, hE15⟩
            · have hj : j = 4 := by omega
              subst hj
              have hseeC := two_seeD hT
              have e2 : ((dA.oddsS i).asksS (4 - i)).see.state = 2 := HC3.out
              have e3 : ((dA.oddsS i).asksS (4 - i)).see.session = 2 := by have h1 := HC4.out; have h2 := HC5.out; show ((dA.oddsS i).asksS (4 - i)).session = 2; omega
              have e4 : (((dA.oddsS i).asksS (4 - i)).see.latched == 131) = (dA.see.state == 4) := HC6.out
              generalize ((dA.oddsS i).asksS (4 - i)).see = sC at *
              obtain ⟨cst, cses, cnum, csnt, csnc, clat, creq, con, cout⟩ := sC
              unfold endVal at hseeC
              simp only at e2 e3 e4 hseeC
              subst e2 e3
              have Hel := Lib.hid hel
              have He4 := Lib.hid e4
              clear hel hlg3 hlgi hA4 hlt hij hj4 hq e4
              go_wp2_with fail
              refine hseeC.mono ?_
              rintro e w15 ⟨x15, rfl, hown15, hb15⟩
              obtain ⟨A15, c15, rfl⟩ := own_slice hown15
              have hQ15 := hQ.trans (hb15.mono hT.Ble)
              have hE15 := hE.below hb15 hE.lt
              have hbN := (Below.refl w15.heap.size w15).alloc (Nat.le_refl _) (.cells #[.int .i64 2, .int .u32 2, .int .u32 cnum, .int .u32 csnt, .int .i64 csnc, .int .i64 clat, .bool creq, .bool con, .slice A15 cout.length c15] 52)
              have hN := Blk.new w15 52 #[.int .i64 2, .int .u32 2, .int .u32 cnum, .int .u32 csnt, .int .i64 csnc, .int .i64 clat, .bool creq, .bool con, .slice A15 cout.length c15]
              have hE16 := hE15.below hbN hE15.lt
              have hQ16 := hQ15.trans (hbN.mono hQ15.size)
              clear hseeC hT hQ hE hb15 hQ15 hE15 hown15
              go_upto_region 29 with fail
              obtain ⟨gN, HgN⟩ : ∃ g, Hid (g = w15.heap.size) := ⟨_, Lib.hid rfl⟩
              rw [← HgN.out] at hN ⊢
              generalize w15.alloc (.cells _ 52) = w16 at *
              have hcN := hN.cell
              have hcE := hE16.cell
              have hfin := hb1'.trans (hQ16.mono hz1)
              have he4 := He4.out
              generalize dA.see.state = sa at *
              cases hy : (sa == 4) with
              | true =>
                rw [hy] at he4
                go_wp2_with fail
                go_ret
                exact ⟨rfl, hfin⟩
              | false =>
                rw [hy] at he4
                go_wp2_with fail
                go_ret
                exact ⟨rfl, hfin⟩
end Go.Proofs.YtbkkfkbgcklkgaaGreat
