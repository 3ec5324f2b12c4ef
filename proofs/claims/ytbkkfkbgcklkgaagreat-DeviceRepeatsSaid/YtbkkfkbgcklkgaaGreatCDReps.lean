/- The walk of DeviceRepeats. -/
import Derived.Test.YtbkkfkbgcklkgaaGreatCDLaw
import Derived.Test.YtbkkfkbgcklkgaaGreatCDGivesM
import Derived.Deep.RegionHeld3
import Derived.Deep.RegionHeld
namespace Go.Proofs.YtbkkfkbgcklkgaaGreat
open Go.RowKit
set_option maxHeartbeats 10000000
set_option maxRecDepth 100000

theorem repUp_log (d : DevM) : ∀ k, (d.repUp k).log.length ≤ d.log.length + 4 * k
  | 0 => by simp [DevM.repUp]
  | k + 1 => by have h1 := repUp_log d k; have h2 := dreceive_log (d.repUp k) ((frameD (d.repUp k) (DevM.stepsOp (k + 1))).getD []); show ((d.repUp k).receive _).1.log.length ≤ _; omega
theorem repS_log (d : DevM) (u : List UInt8) : ∀ k, (d.repS u k).log.length ≤ d.log.length + 4 * k
  | 0 => by simp [DevM.repS]
  | k + 1 => by have h1 := repS_log d u k; have h2 := dreceive_log (d.repS u k) u; show ((d.repS u k).receive _).1.log.length ≤ _; omega
theorem repS_inv {d : DevM} (h : d.Inv) (u : List UInt8) : ∀ k, (d.repS u k).Inv
  | 0 => h
  | k + 1 => (repS_inv h u k).receive u
theorem stepsOp_some (d : DevM) (k : Int) (h1 : 1 ≤ k) (h2 : k ≤ 3) : frameD d (DevM.stepsOp k) = some ((frameD d (DevM.stepsOp k)).getD []) := by
  have h : frameD d (DevM.stepsOp k) = some (unitOpD d (DevM.stepsOp k)).encode := by
    unfold frameD DevM.stepsOp
    simp only
    rw [if_neg (by omega), if_pos ⟨h1, by omega⟩]
  rw [h]
  rfl
theorem stepsOp_len (d : DevM) (k : Int) (h1 : 1 ≤ k) (h2 : k ≤ 3) : ((frameD d (DevM.stepsOp k)).getD []).length ≤ 1000 := by
  have h : frameD d (DevM.stepsOp k) = some (unitOpD d (DevM.stepsOp k)).encode := by
    unfold frameD DevM.stepsOp
    simp only
    rw [if_neg (by omega), if_pos ⟨h1, by omega⟩]
  rw [h]
  exact encode_small _
theorem repeats_facts {far : Nat} (hf : far < 3) : (∀ j, j ≤ far → (((DevM.first 9).repUp j).receive ((frameD ((DevM.first 9).repUp j) (DevM.stepsOp (j + 1))).getD [])).2.2 = 0) ∧
    ∀ i, i < 3 → ∀ q, q = (((DevM.first 9).repUp (far + 1)).repS ((frameD ((DevM.first 9).repUp (far + 1)) (DevM.stepsOp (far + 1))).getD []) i).receive ((frameD ((DevM.first 9).repUp (far + 1)) (DevM.stepsOp (far + 1))).getD []) →
      q.2.1 = (((DevM.first 9).repUp far).receive ((frameD ((DevM.first 9).repUp far) (DevM.stepsOp (far + 1))).getD [])).2.1 ∧ (q.2.2 == 0) = decide (far ≠ 0) ∧ q.1.see = ((DevM.first 9).repUp (far + 1)).see := by
  have h := DevM.repeatsS_small far hf
  unfold DevM.repeatsS at h
  simp only [Bool.and_eq_true, List.all_eq_true, decide_eq_true_eq, List.mem_range] at h
  obtain ⟨⟨h1, h2⟩, h3⟩ := h
  refine ⟨fun j hj => ?_, fun i hi q hq => ?_⟩
  · rcases Nat.lt_or_ge j far with h | h
    · exact h1 j h
    · obtain rfl : j = far := by omega
      exact h2
  · have h4 := h3 i hi
    subst hq
    obtain ⟨a1, a2, b1, b2, b3, b4, b5, b6, b7, b8, b9⟩ := h4
    refine ⟨a1, a2, ?_⟩
    have ext : ∀ (x y : EndM), x.state = y.state → x.session = y.session → x.number = y.number → x.sent = y.sent → x.since = y.since → x.latched = y.latched → x.request = y.request → x.on = y.on → x.out = y.out → x = y := by
      rintro ⟨⟩ ⟨⟩ rfl rfl rfl rfl rfl rfl rfl rfl rfl
      rfl
    exact ext _ _ b1 b2 b3 b4 b5 b6 b7 b8 b9
theorem deviceReps_law (far times : Int) (w : World) :
    Calls Tryz.prog 3 #[.int .i64 far, .int .i64 times] w fun e w' => e = .returned (.bool true) ∧ Below w.heap.size w w' := by
  obtain ⟨r, Hr⟩ : ∃ r, Hid (r = (far % 18446744073709551616).toNat % 3) := ⟨_, Lib.hid rfl⟩
  have hr3 : r < 3 := by rw [Hr.out]; exact Nat.mod_lt _ (by omega)
  have hrem : wrap64 ((IntKind.u64.wrap far).tmod 3) = (r : Int) := rem_u64 (R := 3) (by omega) (by omega) Hr.out
  obtain ⟨t, Ht⟩ : ∃ r, Hid (r = (times % 18446744073709551616).toNat % 4) := ⟨_, Lib.hid rfl⟩
  have ht4 : t < 4 := by rw [Ht.out]; exact Nat.mod_lt _ (by omega)
  have hrem2 : wrap64 ((IntKind.u64.wrap times).tmod 4) = (t : Int) := rem_u64 (R := 4) (by omega) (by omega) Ht.out
  obtain ⟨c1, c2⟩ := repeats_facts hr3
  have lgA : ∀ j, ((DevM.first 9).repUp j).log.length ≤ 4 * j := fun j => by have := repUp_log (DevM.first 9) j; simpa [DevM.first] using this
  have HC1 := Lib.hid c1
  have HC2 := Lib.hid c2
  have fw : IntKind.i64.wrap (1 + (r : Int)) = 1 + (r : Int) := IntWalk.i64_in _ (by omega)
  obtain ⟨i0, hi0, hz0, hzz1, hz2⟩ := info_parts byte_info
  clear c1 c2
  go_enter Tryz.func3, Tryz.ntmps3
  go_wp2_with fail
  refine (lawAwakeD_any _).mono ?_
  rintro e w1 ⟨rfl, hb1'⟩
  go_wp2_with fail
  refine (memNew16_any w1).mono ?_
  rintro e w2 ⟨ma, rfl, hM2, hb2⟩
  have hz1 := hb1'.size
  have hb2' := hb1'.trans (hb2.mono hz1)
  go_wp2_with fail
  refine (rmemNew16_any w2).mono ?_
  rintro e w3 ⟨mb, rfl, hM3, hb3⟩
  have hb3' := hb2'.trans (hb3.mono hb2'.size)
  obtain ⟨F1, F2, hMs⟩ := mems_new hM2 hb2 hM3 hb3
  have hz3 : w1.heap.size ≤ w3.heap.size := Nat.le_trans hb2.size hb3.size
  have hq3 := hb2.trans (hb3.mono hb2.size)
  clear hM2 hM3 hb2 hb3 hb2'
  go_wp2_with fail
  refine (lawSmall_any w3).mono ?_
  rintro e w4 ⟨rfl, hb4⟩
  have hMs4 := hMs.below hb4
  have hb4' := hb3'.trans (hb4.mono hb3'.size)
  have hz4 : w1.heap.size ≤ w4.heap.size := Nat.le_trans hz3 hb4.size
  have hq4 := hq3.trans (hb4.mono hz3)
  clear hMs hb4 hb3' hq3
  unfold parVal smallM
  simp only
  go_wp2_with fail
  refine (devFirst_any ma F1 w1.heap.size 9 w4 hMs4.m1 hMs4.lo1 hz4 ⟨by decide, by decide⟩).mono ?_
  rintro e w5 ⟨a, F3, rfl, hI5, hk5, hs5⟩
  obtain ⟨hM5, hlo5, hdj5⟩ := hMs4.dev hk5 hs5
  have hq5 : Below w1.heap.size w1 w5 := hq4.trans (hk5.below hz4 (fun x hx => (hMs4.lo1 x hx).1))
  clear hMs4 hk5 hs5 hq4 hb4'
  go_wp2_with fail
  refine (lawSmall_any w5).mono ?_
  rintro e w6 ⟨rfl, hb6⟩
  have hI6 := hI5.below hb6
  have hM6 := hM5.below hb6
  have hlo6 : ∀ x, F2 x → w1.heap.size ≤ x ∧ x < w6.heap.size := fun x hx => by have := hlo5 x hx; have := hb6.size; omega
  have hz6 : w1.heap.size ≤ w6.heap.size := Nat.le_trans hq5.size hb6.size
  have hq6 := hq5.trans (hb6.mono hq5.size)
  clear hI5 hM5 hlo5 hb6 hq5
  unfold parVal smallM
  simp only
  go_wp2_with fail
  refine (rdFirst_any mb F2 w1.heap.size 9 w6 hM6 hlo6 (by decide)).mono ?_
  rintro e w7 ⟨b, rfl, hR7, hk7⟩
  have hT := two_newD (first_inv 9 ⟨by decide, by decide⟩) hI6 hdj5 hR7 hk7
  have hq7 : Below w1.heap.size w1 w7 := hq6.trans (hk7.below hz6 (fun x hx => (hlo6 x hx).1))
  have hb7' := hb1'.trans (hq7.mono hz1)
  clear hM6 hlo6 hI6 hdj5 hR7 hk7 hq6
  generalize hA0 : (fun x => F3 x ∨ grow F2 w6 w7 x) = T0 at hT
  clear hA0
  go_wp2_with fail
  simp only [hrem]
  go_loopg [14, 15] 4 (fun q v14 v15 wr => ∃ (i : Nat) (T : Nat → Prop) (Af : Option Addr) (cf : Nat) (lf : List UInt8), v14 = .slice Af lf.length cf ∧ v15 = .int .i64 i ∧ 1 ≤ i ∧ i ≤ r + 2 ∧ i + q = 5 ∧ TwoD w1.heap.size wr a ma b mb ((DevM.first 9).repUp (i - 1)) T ∧ Below w1.heap.size w1 wr ∧ wr.ownsRow 0 5 1 (.slice Af lf.length cf) lf.length (u8c lf) ∧ (∀ y, (Value.slice Af lf.length cf).ownBlock = some y → ¬ T y) ∧ Hid (∀ j, i = j + 2 → lf = (((DevM.first 9).repUp j).receive ((frameD ((DevM.first 9).repUp j) (DevM.stepsOp (j + 1))).getD [])).2.1))
  case atStart => exact ⟨1, T0, none, 0, [], rfl, rfl, by omega, by omega, by omega, hT, hq7, World.ownsRow_nil _ _ _ _, fun y hy => by simp [Value.ownBlock] at hy, Lib.hid (fun j h => by omega)⟩
  case round =>
    clear hT hb7' hq7
    obtain ⟨i, T, Af, cf, lf, rfl, rfl, hi1, hi2, hq, hT, hQ, hof, hdf, Hlf⟩ := hrel
    have hlg := lgA (i - 1)
    by_cases hlt : i ≤ r + 1
    · have f2 : ((i : Int) ≤ 1 + (r : Int)) := by omega
      obtain ⟨f, Hf⟩ : ∃ f, Hid (f = (frameD ((DevM.first 9).repUp (i - 1)) (DevM.stepsOp i)).getD []) := ⟨_, Lib.hid rfl⟩
      have hsome := stepsOp_some ((DevM.first 9).repUp (i - 1)) i (by omega) (by omega)
      have hfl := stepsOp_len ((DevM.first 9).repUp (i - 1)) i (by omega) (by omega)
      rw [← Hf.out] at hsome hfl
      have hcast : ((i - 1 : Nat) : Int) + 1 = (i : Int) := by omega
      have hup : (DevM.first 9).repUp (i - 1 + 1) = (((DevM.first 9).repUp (i - 1)).receive f).1 := by
        show (((DevM.first 9).repUp (i - 1)).receive ((frameD ((DevM.first 9).repUp (i - 1)) (DevM.stepsOp (((i - 1 : Nat) : Int) + 1))).getD [])).1 = _
        rw [hcast, ← Hf.out]
      have hok : (((DevM.first 9).repUp (i - 1)).receive f).2.2 = 0 := by
        have h := HC1.out (i - 1) (by omega)
        rw [hcast, ← Hf.out] at h
        exact h
      have Hans : Hid (∀ j, i + 1 = j + 2 → (((DevM.first 9).repUp (i - 1)).receive f).2.1 = (((DevM.first 9).repUp j).receive ((frameD ((DevM.first 9).repUp j) (DevM.stepsOp (j + 1))).getD [])).2.1) := Lib.hid (fun j h => by
        have hj : j = i - 1 := by omega
        subst hj
        rw [hcast, ← Hf.out])
      have hfr := two_frameD hT (DevM.stepsOp i) none 0 0 ⟨by simp [DevM.stepsOp], by simp [DevM.stepsOp], by simp [DevM.stepsOp]⟩ Reads.none_ (Nat.zero_le _) (by simp [DevM.stepsOp]) (by simp [DevM.stepsOp])
      rw [hsome] at hfr
      generalize (DevM.first 9).repUp (i - 1) = d at *
      unfold opVal DevM.stepsOp at hfr
      simp only [Option.isSome_some, List.length_nil] at hfr
      have Hq := Lib.hid hq
      have Hi := Lib.hid (And.intro hi1 hlt)
      have Hup := Lib.hid hup
      have hltT := hT.lt
      clear hq hi1 hi2 hlt hsome Hf hcast hof hdf Hlf hup
      go_wp2_with fail
      refine hfr.mono ?_
      rintro e w8 ⟨v8, rfl, _, hs8, hb8⟩
      have hown8 := hs8 f rfl
      obtain ⟨A8, c8, rfl⟩ := own_slice hown8
      have hT8 := hT.below hb8
      have hQ8 := hQ.trans (hb8.mono hT.Ble)
      have hr8 := Reads.of_own hown8
      have hfl2 : f.length ≤ 1000 := hfl
      have hg8 := hown8.lt
      have hz8 := hb8.size
      clear hfr hs8 hT hQ hb8
      go_wp2_with (at_builtin; refine wpList_append_any _ rfl (.tmp 73) (.tmp 74) _ rfl w8.heap.size 5 i0 _ 1 1 Tryz.underlying41 hi0 hz0 hzz1 hz2 rfl (by omega) (.slice (some ⟨w8.heap.size, 0, none⟩) 0 0) 0 [] rfl (World.ownsRow_made w8 #[] 0 (Nat.le_refl _) (by unfold maxLen; omega) rfl) w8.heap.size A8 f.length c8 (u8c f) rfl (hr8.alloc (Nat.le_refl _) _) (u8c_one f) (by unfold maxLen; omega) (by omega) (by simp) ?_; intro v9 w9 hown9 hg9 hat9; rw [Nat.zero_add, List.nil_append] at hown9; obtain ⟨A9, c9, rfl⟩ := own_slice hown9)
      have hb9 := ((Below.refl w8.heap.size w8).alloc (Nat.le_refl _) (.cells #[] 5)).grown hg9 (by simp) (fun k hk => by simp [Value.ownBlock] at hk; omega)
      have hT9 := hT8.below hb9
      have hQ9 := hQ8.trans (hb9.mono hT8.Ble)
      have hown89 := own_below hown8 hb9
      have hrc := two_receiveD hT9 (by omega) f.length f A9 c9 w9.heap.size (Reads.of_own hown9) (Nat.le_refl _) (own_cap hown9) (by omega)
      rw [hok] at hrc
      have hhr := fun {W : World} {T1 T2 : Nat → Prop} (h : HalfD w1.heap.size W a ma b mb (d.receive f).1 d T1 T2) (hr : Reads W W.heap.size 1 A8 f.length (u8c f)) => half_receiveD f.length f h (by omega) A8 c8 W.heap.size hr (Nat.le_refl _) (own_cap hown8)
      have hz9 := hb9.size
      clear hT8 hQ8 hg9 hat9 hb9 hr8
      refine hrc.mono ?_
      rintro e w10 ⟨x10, T', rfl, hown10, hH10, hsub10, hdj10, hk10, hb10⟩
      obtain ⟨A10, c10, rfl⟩ := own_slice hown10
      have hQ10 := hQ9.trans hb10
      have hr10 := (Reads.of_own (ownsRow_keep hown89 hk10 (fun y hy h => by have h1 := (hg8 y hy).1; have h2 := hltT _ h; omega)))
      have hg10 := hown10.lt
      clear hrc hT9 hQ9 hown89 hb10 hown9 hk10
      go_wp2_with fail
      refine (hhr hH10 hr10).mono ?_
      rintro e w11 ⟨x11, T2, rfl, hx11, hT11, hsub11, _, hk11, hb11⟩
      obtain ⟨A11, c11, rfl⟩ := own_slice hx11
      have hQ11 := hQ10.trans hb11
      have hown11 := own_base (ownsRow_keep hown10 hk11 (fun y hy h => by have h1 := (hg10 y hy).1; have h2 := hltT _ h; omega)) (Nat.zero_le _)
      have hd11 : ∀ y, (Value.slice A10 (d.receive f).2.1.length c10).ownBlock = some y → ¬ T2 y := fun y hy h => by
        rcases hsub11 y h with h1 | h1
        · exact hdj10 y hy h1
        · have := (hg10 y hy).2; omega
      generalize hlx : (d.receive f).2.1 = lx at *
      clear hhr hH10 hr10 hown10 hk11 hb11 hx11
      go_wp2_with fail
      go_roundg (5 - (i + 1))
      case measure => have := Hq.out; have := Hi.out; omega
      case rel =>
        have h1 := Hq.out
        have h2 := Hi.out
        exact ⟨i + 1, T2, A10, c10, lx, rfl, by go_num, by omega, by omega, by omega, (by rw [show i + 1 - 1 = i - 1 + 1 by omega, Hup.out]; exact hT11), hQ11, hown11, hd11, Hans⟩
    · have hi3 : i = r + 2 := by omega
      subst hi3
      have f2 : ¬ ((r : Int) + 2 ≤ 1 + (r : Int)) := by omega
      rw [show r + 2 - 1 = r + 1 by omega] at hT hlg
      have hlf := Hlf.out r rfl
      have ek : ((r : Nat) : Int) + 1 = 1 + (r : Int) := by omega
      rw [ek] at hlf
      have c2 := HC2.out
      simp only [ek] at c2
      rw [← hlf] at c2
      have hsome := stepsOp_some ((DevM.first 9).repUp (r + 1)) (1 + (r : Int)) (by omega) (by omega)
      have hfl := stepsOp_len ((DevM.first 9).repUp (r + 1)) (1 + (r : Int)) (by omega) (by omega)
      have hfr := fun (W : World) (h : TwoD w1.heap.size W a ma b mb ((DevM.first 9).repUp (r + 1)) T) => two_frameD h (DevM.stepsOp (1 + (r : Int))) none 0 0 ⟨by simp [DevM.stepsOp], by simp [DevM.stepsOp], by simp [DevM.stepsOp]⟩ Reads.none_ (Nat.zero_le _) (by simp [DevM.stepsOp]) (by simp [DevM.stepsOp])
      rw [hsome] at hfr
      have hseeA := two_seeD hT
      have hltW := hT.lt
      generalize (DevM.first 9).repUp (r + 1) = dB at *
      obtain ⟨fB, HfB⟩ : ∃ f, Hid (f = (frameD dB (DevM.stepsOp (1 + (r : Int)))).getD []) := ⟨_, Lib.hid rfl⟩
      rw [← HfB.out] at hfr hfl c2
      obtain ⟨sB, HsB⟩ : ∃ s, Hid (s = dB.see) := ⟨_, Lib.hid rfl⟩
      rw [← HsB.out] at hseeA c2
      have HC := Lib.hid c2
      unfold opVal DevM.stepsOp at hfr
      unfold endVal at hseeA
      simp only [Option.isSome_some, List.length_nil] at hfr
      have Hhof := Lib.hid (And.intro hof hdf)
      have hrl := fun y (hy : (Value.slice Af lf.length cf).ownBlock = some y) => (hof.lt y hy).2
      have Hrl := Lib.hid hrl
      clear hq hi1 hi2 hlt hsome ek hlf c2 hof hdf Hlf hrl
      go_wp2_with fail
      refine hseeA.mono ?_
      rintro e w8 ⟨x8, rfl, hown8, hb8⟩
      obtain ⟨AW, cW, rfl⟩ := own_slice hown8
      have hT8 := hT.below hb8
      have hQ8 := hQ.trans (hb8.mono hT.Ble)
      have hbE := (Below.refl w8.heap.size w8).alloc (Nat.le_refl _) (.cells #[.int .i64 sB.state, .int .u32 sB.session, .int .u32 sB.number, .int .u32 sB.sent, .int .i64 sB.since, .int .i64 sB.latched, .bool sB.request, .bool sB.on, .slice AW sB.out.length cW] 52)
      have hE := Blk.new w8 52 #[.int .i64 sB.state, .int .u32 sB.session, .int .u32 sB.number, .int .u32 sB.sent, .int .i64 sB.since, .int .i64 sB.latched, .bool sB.request, .bool sB.on, .slice AW sB.out.length cW]
      have hT9 := hT8.below hbE
      have hQ9 := hQ8.trans (hbE.mono hT8.Ble)
      have hof9 := own_below (own_below Hhof.out.1 hb8) hbE
      have hW9 := own_below hown8 hbE
      have hltT : ∀ x, T x → x < w8.heap.size := fun x hx => by have := hltW x hx; have := hb8.size; omega
      have hfresh : ∀ y, (Value.slice AW sB.out.length cW).ownBlock = some y → ¬ T y := fun y hy h => by have h1 := (hown8.lt y hy).1; have h2 := hltW y h; omega
      have HfW := Lib.hid hfresh
      clear hseeA hT hT8 hQ hQ8 hown8 hb8 hltW hfresh
      go_upto_region 21 with fail
      obtain ⟨gE, HgE⟩ : ∃ g, Hid (g = w8.heap.size) := ⟨_, Lib.hid rfl⟩
      have hTE : ¬ T gE := fun h => by have h1 := hltT _ h; have h3 := HgE.out; omega
      rw [← HgE.out] at hE ⊢
      generalize w8.alloc (.cells _ 52) = w9 at *
      have hlt9 := hT9.lt
      clear hltT hbE
      go_wp2_with fail
      refine (hfr _ hT9).mono ?_
      rintro e w10 ⟨v10, rfl, _, hs10, hb10⟩
      have hown10 := hs10 fB rfl
      obtain ⟨AB, cB, rfl⟩ := own_slice hown10
      have hT10 := hT9.below hb10
      have hQ10 := hQ9.trans (hb10.mono hT9.Ble)
      have hE10 := hE.below hb10 hE.lt
      have hof10 := own_below hof9 hb10
      have hW10 := own_base (own_below hW9 hb10) (Nat.zero_le _)
      have hBo10 := own_base hown10 (Nat.zero_le _)
      have hfB : ∀ y, (Value.slice AB fB.length cB).ownBlock = some y → ¬ T y := fun y hy h => by have h1 := (hown10.lt y hy).1; have h2 := hlt9 y h; omega
      have hinv := hT10.inv
      obtain ⟨F1, F2', hP, hTs⟩ := hT10.pair
      have hI10 := hP.dev
      have hS10 : ∀ y, (y = gE ∨ (Value.slice AB fB.length cB).ownBlock = some y ∨ (Value.slice Af lf.length cf).ownBlock = some y ∨ (Value.slice AW sB.out.length cW).ownBlock = some y) → ¬ F1 y := fun y hy h => by
        have hT := hTs y (.inl h)
        rcases hy with rfl | hy | hy | hy
        · exact hTE hT
        · exact hfB y hy hT
        · exact Hhof.out.2 y hy hT
        · exact HfW.out y hy hT
      clear hfr hT9 hQ9 hE hof9 hW9 hs10 hown10 hT10 hb10 hfB hTE hlt9 hP hTs
      go_wp2_with fail
      go_loopg [23] 4 (fun q v23 wr => ∃ (i : Nat) (F : Nat → Prop), v23 = .int .i64 i ∧ i ≤ t ∧ i + q = 4 ∧ DevIs w1.heap.size wr a ma (dB.repS fB i) F ∧ Below w1.heap.size w1 wr ∧ (∀ y, (y = gE ∨ (Value.slice AB fB.length cB).ownBlock = some y ∨ (Value.slice Af lf.length cf).ownBlock = some y ∨ (Value.slice AW sB.out.length cW).ownBlock = some y) → ¬ F y) ∧ Blk wr gE 52 #[.int .i64 sB.state, .int .u32 sB.session, .int .u32 sB.number, .int .u32 sB.sent, .int .i64 sB.since, .int .i64 sB.latched, .bool sB.request, .bool sB.on, .slice AW sB.out.length cW] ∧ wr.ownsRow 0 5 1 (.slice Af lf.length cf) lf.length (u8c lf) ∧ wr.ownsRow 0 5 1 (.slice AB fB.length cB) fB.length (u8c fB) ∧ wr.ownsRow 0 5 1 (.slice AW sB.out.length cW) sB.out.length (u8c sB.out))
      case atStart => exact ⟨0, F1, rfl, by omega, by omega, hI10, hQ10, hS10, hE10, hof10, hBo10, hW10⟩
      case round =>
        clear hI10 hQ10 hS10 hE10 hof10 hBo10 hW10
        obtain ⟨i, F, rfl, hit, hq, hI, hQ, hS, hE, hof, hBo, hW⟩ := hrel
        have hB := hb1'.trans (hQ.mono hz1)
        by_cases hlt : i < t
        · have f1 : ((i : Int) < (t : Int)) := by omega
          have hlg2 := repS_log dB fB i
          have hq3 := HC.out i (by omega) _ rfl
          have hvi := repS_inv hinv fB i
          have hrb := Reads.of_own hBo
          have hsm := fun (A1 A2 : Option Addr) (c1 c2 : Nat) (W : World) h1 h2 => r13same_any sB A1 A2 c1 c2 W.heap.size W h1 h2 (Nat.le_refl _)
          have hnx : dB.repS fB (i + 1) = ((dB.repS fB i).receive fB).1 := rfl
          have hlgB : dB.log.length ≤ 4 * (r + 1) := hlg
          have Hq := Lib.hid hq
          have Hl := Lib.hid hlt
          have HS := Lib.hid hS
          clear hq hlt hit hS
          go_wp2_with (at_builtin; refine wpList_append_any _ rfl (.tmp 104) (.tmp 105) _ rfl wr.heap.size 5 i0 _ 1 1 Tryz.underlying41 hi0 hz0 hzz1 hz2 rfl (by omega) (.slice (some ⟨wr.heap.size, 0, none⟩) 0 0) 0 [] rfl (World.ownsRow_made wr #[] 0 (Nat.le_refl _) (by unfold maxLen; omega) rfl) wr.heap.size AB fB.length cB (u8c fB) rfl (hrb.alloc (Nat.le_refl _) _) (u8c_one fB) (by unfold maxLen; omega) (by omega) (by simp) ?_; intro v12 w12 hown12 hg12 hat12; rw [Nat.zero_add, List.nil_append] at hown12; obtain ⟨A12, c12, rfl⟩ := own_slice hown12)
          have hb2 := ((Below.refl wr.heap.size wr).alloc (Nat.le_refl _) (.cells #[] 5)).grown hg12 (by simp) (fun k hk => by simp [Value.ownBlock] at hk; omega)
          have hI2 := hI.below hb2
          have hQ2 := hQ.trans (hb2.mono hI.Ble)
          have hE2 := hE.below hb2 hE.lt
          have hof2 := own_below hof hb2
          have hBo2 := own_below hBo hb2
          have hW2 := own_below hW hb2
          have hrc := devReceive_any w1.heap.size a ma (dB.repS fB i) F A12 fB.length c12 w12.heap.size fB w12 hI2 hvi (by omega) (Reads.of_own hown12) (Nat.le_refl _) (own_cap hown12) (by omega)
          obtain ⟨qq, Hqq⟩ : ∃ q, Hid (q = (dB.repS fB i).receive fB) := ⟨_, Lib.hid rfl⟩
          rw [← Hqq.out] at hrc hq3 hnx
          obtain ⟨q1, q2, q3⟩ := qq
          simp only at hq3 hnx
          obtain ⟨e1, e2, e3⟩ := hq3
          subst e1
          have hvi2 := repS_inv hinv fB (i + 1)
          rw [hnx] at hvi2
          have Hrc : Hid ((q3 == 0) = decide (r ≠ 0)) := Lib.hid e2
          clear hI hQ hE hof hBo hW hg12 hat12 hrb e2 hlg2 Hqq
          refine hrc.mono ?_
          rintro e w13 ⟨x13, rfl, hx13, t13⟩
          simp only at hx13 t13
          obtain ⟨A13, c13, rfl⟩ := own_slice hx13
          obtain ⟨F', hI13, hsub13, hdj13⟩ := t13.ap
          have hk13 := t13.too.keep
          have hs13 := hk13.size
          have hQ13 := hQ2.trans (hk13.below hI2.Ble (fun x hx => (hI2.lo x hx).1))
          have hSn : ∀ y, (y = gE ∨ (Value.slice AB fB.length cB).ownBlock = some y ∨ (Value.slice Af q2.length cf).ownBlock = some y ∨ (Value.slice AW sB.out.length cW).ownBlock = some y) → ¬ F y := HS.out
          have hlt2 : ∀ y, (y = gE ∨ (Value.slice AB fB.length cB).ownBlock = some y ∨ (Value.slice Af q2.length cf).ownBlock = some y ∨ (Value.slice AW sB.out.length cW).ownBlock = some y) → y < w12.heap.size := fun y hy => by
            rcases hy with rfl | hy | hy | hy
            · exact hE2.lt
            · exact (hBo2.lt y hy).2
            · exact (hof2.lt y hy).2
            · exact (hW2.lt y hy).2
          have hS13 : ∀ y, (y = gE ∨ (Value.slice AB fB.length cB).ownBlock = some y ∨ (Value.slice Af q2.length cf).ownBlock = some y ∨ (Value.slice AW sB.out.length cW).ownBlock = some y) → ¬ F' y := fun y hy h => (hsub13 y h).elim (hSn y hy) (fun h => by have := hlt2 y hy; omega)
          have hE13 := hE2.keep hk13 (hSn gE (.inl rfl))
          have hof13 := ownsRow_keep hof2 hk13 (fun y hy => hSn y (.inr (.inr (.inl hy))))
          have hBo13 := ownsRow_keep hBo2 hk13 (fun y hy => hSn y (.inr (.inl hy)))
          have hW13 := ownsRow_keep hW2 hk13 (fun y hy => hSn y (.inr (.inr (.inr hy))))
          have HS13 := Lib.hid hS13
          clear hrc hI2 hQ2 hE2 hof2 hBo2 hW2 t13 hk13 hs13 hSn hlt2 hS13 hsub13 hdj13 hown12
          go_upto_region 26 with fail
          replace hI13 := hI13.below (Below.refl w13.heap.size w13).drew
          replace hQ13 := hQ13.drew
          replace hE13 := hE13.drew
          replace hof13 := own_below hof13 (Below.refl w13.heap.size w13).drew
          replace hBo13 := own_below hBo13 (Below.refl w13.heap.size w13).drew
          replace hW13 := own_below hW13 (Below.refl w13.heap.size w13).drew
          replace hx13 := own_below hx13 (Below.refl w13.heap.size w13).drew
          have hsee := devSee_any w1.heap.size a ma q1 F' w13.drew hI13 hvi2
          rw [e3] at hsee
          unfold endVal at hsee hsm
          obtain ⟨g1, g2, hg12⟩ : ∃ g1 : Bool, Hid ((q3 == 0) = g1) ∧ Hid (((1 + (r : Int)) != 1) = g1) ∧ True := by
            by_cases hr0 : r = 0
            · exact ⟨false, Lib.hid (by rw [Hrc.out]; simp [hr0]), Lib.hid (by simp [hr0]), trivial⟩
            · exact ⟨true, Lib.hid (by rw [Hrc.out]; simp [hr0]), Lib.hid (by simp; omega), trivial⟩
          have g1' := g2.out
          have g2' := hg12.1.out
          have SL := fun {W : World} (h : Blk W gE 52 #[.int .i64 sB.state, .int .u32 sB.session, .int .u32 sB.number, .int .u32 sB.sent, .int .i64 sB.since, .int .i64 sB.latched, .bool sB.request, .bool sB.on, .slice AW sB.out.length cW]) (h1 : W.ownsRow 0 5 1 (.slice Af q2.length cf) q2.length (u8c q2)) (h2 : W.ownsRow w12.heap.size 5 1 (.slice A13 q2.length c13) q2.length (u8c q2)) => And.intro (endSD9 h) (And.intro (conv_reads (c := cf) (Reads.of_own h1)) (conv_reads (c := c13) (Reads.of_own h2)))
          clear Hrc g2 hg12
          go_wp2_with fail
          cases g1
          all_goals
            go_region_held (fun w' => (w'.cell? ⟨gE, 0, none⟩ = some (.int .i64 sB.state) ∧ w'.cell? ⟨gE, 1, none⟩ = some (.int .u32 sB.session) ∧ w'.cell? ⟨gE, 2, none⟩ = some (.int .u32 sB.number) ∧ w'.cell? ⟨gE, 3, none⟩ = some (.int .u32 sB.sent) ∧ w'.cell? ⟨gE, 4, none⟩ = some (.int .i64 sB.since) ∧ w'.cell? ⟨gE, 5, none⟩ = some (.int .i64 sB.latched) ∧ w'.cell? ⟨gE, 6, none⟩ = some (.bool sB.request) ∧ w'.cell? ⟨gE, 7, none⟩ = some (.bool sB.on) ∧ w'.cell? ⟨gE, 8, none⟩ = some (.slice AW sB.out.length cW)) ∧ (convert 41 9 (.slice Af q2.length cf)).run Tryz.prog w' = .ok (.string ⟨q2.toArray⟩) w' ∧ (convert 41 9 (.slice A13 q2.length c13)).run Tryz.prog w' = .ok (.string ⟨q2.toArray⟩) w') (exact SL hE13 hof13 hx13) (first
              | (go_at_call 21; refine hsee.mono ?_; rintro e w14 ⟨x14, rfl, hown14, hb14⟩; obtain ⟨A14, c14, hx14⟩ := own_slice hown14; subst hx14; replace hI13 := hI13.below hb14; replace hQ13 := hQ13.trans (hb14.mono hQ13.size); replace hE13 := hE13.below hb14 hE13.lt; replace hof13 := own_below hof13 hb14; replace hBo13 := own_below hBo13 hb14; replace hW13 := own_below hW13 hb14; replace hx13 := own_below hx13 hb14)
              | (go_at_call 22; refine (hsm AW A14 cW c14 w14 (Reads.of_own hW13) (Reads.of_own hown14)).mono ?_; rintro e w15 ⟨rfl, hb15⟩; replace hI13 := hI13.below hb15; replace hQ13 := hQ13.trans (hb15.mono hQ13.size); replace hE13 := hE13.below hb15 hE13.lt; replace hof13 := own_below hof13 hb15; replace hBo13 := own_below hBo13 hb15; replace hW13 := own_below hW13 hb15; replace hx13 := own_below hx13 hb15))
            go_wp2_with fail
            go_roundg (4 - (i + 1))
            case measure => have := Hq.out; have := Hl.out; omega
            case rel =>
              have h1 := Hq.out
              have h2 := Hl.out
              exact ⟨i + 1, F', by go_num, by omega, by omega, (by rw [hnx]; exact hI13), hQ13, HS13.out, hE13, hof13, hBo13, hW13⟩
        · have hi3 : i = t := by omega
          subst hi3
          have f1 : ¬ ((i : Int) < (i : Int)) := by omega
          clear hq hlt hit hI hS hE hof hBo hW hQ
          go_wp2_with fail
          go_ret
          exact ⟨rfl, hB⟩
end Go.Proofs.YtbkkfkbgcklkgaaGreat
