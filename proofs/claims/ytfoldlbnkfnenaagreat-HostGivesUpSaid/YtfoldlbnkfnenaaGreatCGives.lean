/- The walk of HostGivesUp. -/
import Derived.Test.YtfoldlbnkfnenaaGreatBase14
import Derived.Test.YtfoldlbnkfnenaaGreatCGivesM
namespace Go.Proofs.YtfoldlbnkfnenaaGreat
open Go.RowKit
set_option maxHeartbeats 10000000
set_option maxRecDepth 100000

theorem endS {w : World} {g : Nat} {x0 x1 x2 x3 x4 x5 x6 x7 x8 : Value} (h : Blk w g 53 #[x0, x1, x2, x3, x4, x5, x6, x7, x8]) : w.cell? ⟨g, 0, none⟩ = some x0 := (h.cell 0).trans rfl
theorem end_session (a0 a1 a2 a3 a4 a5 a6 a7 a8 : Value) (W : World) : (Instr.field 53 (.agg #[a0, a1, a2, a3, a4, a5, a6, a7, a8]) 1).run Tryz.prog W = .ok a1 W := by
  unfold Instr.field
  simp only [Sem.run_bind, run_underlying Tryz.underlying53, Result.andThen]
  have hagg : (isAgg 28).run Tryz.prog W = .ok false W := by kernel_rfl
  show Sem.run _ (do let l ← asAgg (Value.agg #[a0, a1, a2, a3, a4, a5, a6, a7, a8]); part 28 l 1) W = _
  simp [Sem.run_bind, asAgg, part, hagg, Sem.run_pure]
theorem hostGives_law (session far : Int) (w : World) (hs : 0 ≤ session ∧ session < 4294967296) :
    Calls Tryz.prog 6 #[.int .u32 session, .int .i64 far] w fun e w' => e = .returned (.bool true) ∧ Below w.heap.size w w' := by
  go_enter Tryz.func6, Tryz.ntmps6
  go_wp2_with fail
  refine (lawAwake_any _).mono ?_
  rintro e w1 ⟨rfl, hb1⟩
  by_cases h0 : session = 0
  · subst h0
    go_wp2_with fail
    go_ret
    exact ⟨rfl, hb1⟩
  by_cases h31 : 2147483648 < session
  · have g0 : (session == 0) = false := by simpa using h0
    have g1 : decide (2147483648 < session) = true := by simpa using h31
    go_wp2_with fail
    go_ret
    exact ⟨rfl, hb1⟩
  have g0 : (session == 0) = false := by simpa using h0
  have g1 : decide (2147483648 < session) = false := by simpa using h31
  go_wp2_with fail
  refine (lawSmall_any _).mono ?_
  rintro e w2 ⟨rfl, hb2⟩
  have hb2' := hb1.trans (hb2.mono hb1.size)
  have hbP := hb2'.alloc hb2'.size (.cells #[.int .u32 7, .int .i64 2, .int .i64 1, .int .i64 10, .int .u32 9] 30)
  have hP := Blk.new w2 30 #[.int .u32 7, .int .i64 2, .int .i64 1, .int .i64 10, .int .u32 9]
  unfold parVal smallM
  simp only
  go_wp2_with fail
  generalize w2.alloc (.cells #[.int .u32 7, .int .i64 2, .int .i64 1, .int .i64 10, .int .u32 9] 30) = w3 at *
  have hsP := hbP.size
  refine (hostNew_any smallM w3 small_lawful).mono ?_
  rintro e w4 ⟨a, F1, rfl, hI, hb4⟩
  have hb4' := hbP.trans (hb4.mono hbP.size)
  have hP4 := hP.below hb4 hP.lt
  have hcP := hP4.cell
  go_wp2_with fail
  refine (rhNew_any smallM w4 small_ok small_lawful).mono ?_
  rintro e w5 ⟨b, F2, rfl, hR, hb5⟩
  have hT := two_new smallM small_ok small_lawful hI hR hb5
  have hb5' := hb4'.trans (hb5.mono hb4'.size)
  have hBle := hbP.size
  clear hcP hI hR hb4 hb4' hb5 hb2 hb2' hb1 hP4 hP hbP
  have hs1 : 1 ≤ session ∧ session < 4294967296 := by omega
  have hlt5 := hT.lt
  have hbA : Below w5.heap.size w5 (w5.alloc (.cells #[.int .u8 4] 5)) := (Below.refl _ _).alloc (Nat.le_refl _) _
  have hbU := hbA.alloc hbA.size (.cells #[.int .i64 1, .int .i64 session, .int .i64 0, .bool false, .slice none 0 0, .int .i64 0, .int .u32 0, .int .i64 2, .int .i64 0, .int .i64 0, .bool false, .slice none 0 0, .int .i64 0, .int .u32 0, .int .i64 3, .int .i64 0, .int .i64 0, .bool false, .slice none 0 0, .int .i64 0, .int .u32 0, .int .i64 4, .int .i64 1, .int .i64 0, .bool false, .slice (some ⟨w5.heap.size, 0, none⟩) 1 1, .int .i64 0, .int .u32 0] 48)
  have hD := (Blk.new w5 5 #[.int .u8 4]).alloc (.cells #[.int .i64 1, .int .i64 session, .int .i64 0, .bool false, .slice none 0 0, .int .i64 0, .int .u32 0, .int .i64 2, .int .i64 0, .int .i64 0, .bool false, .slice none 0 0, .int .i64 0, .int .u32 0, .int .i64 3, .int .i64 0, .int .i64 0, .bool false, .slice none 0 0, .int .i64 0, .int .u32 0, .int .i64 4, .int .i64 1, .int .i64 0, .bool false, .slice (some ⟨w5.heap.size, 0, none⟩) 1 1, .int .i64 0, .int .u32 0] 48)
  have hU := Blk.new (w5.alloc (.cells #[.int .u8 4] 5)) 48 #[.int .i64 1, .int .i64 session, .int .i64 0, .bool false, .slice none 0 0, .int .i64 0, .int .u32 0, .int .i64 2, .int .i64 0, .int .i64 0, .bool false, .slice none 0 0, .int .i64 0, .int .u32 0, .int .i64 3, .int .i64 0, .int .i64 0, .bool false, .slice none 0 0, .int .i64 0, .int .u32 0, .int .i64 4, .int .i64 1, .int .i64 0, .bool false, .slice (some ⟨w5.heap.size, 0, none⟩) 1 1, .int .i64 0, .int .u32 0]
  have hT6 := hT.below hbU
  have hb6 := hb5'.trans (hbU.mono hb5'.size)
  have hz6 : (w5.alloc (.cells #[.int .u8 4] 5)).heap.size = w5.heap.size + 1 := by simp
  rw [hz6] at hU
  obtain ⟨r, Hr⟩ : ∃ r, Hid (r = (far % 18446744073709551616).toNat % 4) := ⟨_, Lib.hid rfl⟩
  have hr4 : r < 4 := by rw [Hr.out]; exact Nat.mod_lt _ (by omega)
  have hrem : wrap64 ((IntKind.u64.wrap far).tmod 4) = (r : Int) := rem_u64 (R := 4) (by omega) (by omega) Hr.out
  clear hT hbA hbU hb5' hz6
  go_wp2_with fail
  obtain ⟨g8, Hg8⟩ : ∃ g, Hid (g = w5.heap.size) := ⟨_, Lib.hid rfl⟩
  have hTg : ∀ x, (F1 x ∨ F2 x) → x < g8 := fun x hx => by have h1 := hlt5 x hx; have h2 := Hg8.out; omega
  rw [← Hg8.out] at hD hU hT6 hb6 ⊢
  generalize (w5.alloc _).alloc _ = w6 at *
  clear hlt5
  go_loopg [11] (r + 1) (fun q v11 wr => ∃ (i : Nat) (T : Nat → Prop), v11 = .int .i64 i ∧ i + q = r + 1 ∧ Two w3.heap.size wr a b (guAt session i) T ∧ (¬ T g8 ∧ ¬ T (g8 + 1)) ∧ Blk wr g8 5 #[.int .u8 4] ∧ Blk wr (g8 + 1) 48 #[.int .i64 1, .int .i64 session, .int .i64 0, .bool false, .slice none 0 0, .int .i64 0, .int .u32 0, .int .i64 2, .int .i64 0, .int .i64 0, .bool false, .slice none 0 0, .int .i64 0, .int .u32 0, .int .i64 3, .int .i64 0, .int .i64 0, .bool false, .slice none 0 0, .int .i64 0, .int .u32 0, .int .i64 4, .int .i64 1, .int .i64 0, .bool false, .slice (some ⟨g8, 0, none⟩) 1 1, .int .i64 0, .int .u32 0] ∧ Below w.heap.size w wr)
  case atStart => exact ⟨0, _, rfl, by omega, hT6, ⟨fun h => by have := hTg _ h; omega, fun h => by have := hTg _ h; omega⟩, hD, hU, hb6⟩
  case round =>
    clear hT6 hb6 hTg hD hU
    obtain ⟨i, T, rfl, hq, hT, hTd, hD, hU, hB⟩ := hrel
    by_cases hlt : i ≤ r
    · have hc := hU.cell
      have Hq := Lib.hid hq
      clear hq
      have hlen : ∀ j, j < 4 → (guAt session j).log.length = 0 := fun j hj => by
        match j, hj with
        | 0, _ => rfl
        | 1, _ => rfl
        | 2, _ => rfl
        | 3, _ => rfl
      have h4 : ∀ (o : OpM) (A : Option Addr) (c : Nat), o = guOp session i → o.data.length ≤ c → (0 < o.data.length → ∀ ad, A = some ad → ad.block < w3.heap.size ∨ ¬ T ad.block) → Reads wr wr.heap.size 1 A o.data.length (u8c o.data) →
          Calls Tryz.prog 26 #[.pointer (some ⟨a, 0, none⟩), .pointer (some ⟨b, 0, none⟩), opVal o (.slice A o.data.length c)] wr fun e w' => e = .returned (.bool true) ∧ ∃ T', Two w3.heap.size w' a b (guAt session (i + 1)) T' ∧ (¬ T' g8 ∧ ¬ T' (g8 + 1)) ∧ Blk w' g8 5 #[.int .u8 4] ∧ Blk w' (g8 + 1) 48 #[.int .i64 1, .int .i64 session, .int .i64 0, .bool false, .slice none 0 0, .int .i64 0, .int .u32 0, .int .i64 2, .int .i64 0, .int .i64 0, .bool false, .slice none 0 0, .int .i64 0, .int .u32 0, .int .i64 3, .int .i64 0, .int .i64 0, .bool false, .slice none 0 0, .int .i64 0, .int .u32 0, .int .i64 4, .int .i64 1, .int .i64 0, .bool false, .slice (some ⟨g8, 0, none⟩) 1 1, .int .i64 0, .int .u32 0] ∧ Below w.heap.size w w' := by
        rintro o A c rfl hc hA hr
        have hok : (guOp session i).Ok ∧ (guOp session i).data.length ≤ 1 := by
          match i with
          | 0 => exact ⟨⟨by simp [guOp], by simp [guOp], by simp only [guOp]; omega⟩, by simp [guOp]⟩
          | 1 => exact ⟨⟨by simp [guOp], by simp [guOp], by simp [guOp]⟩, by simp [guOp]⟩
          | 2 => exact ⟨⟨by simp [guOp], by simp [guOp], by simp [guOp]⟩, by simp [guOp]⟩
          | n + 3 => exact ⟨⟨by simp [guOp], by simp [guOp], by simp [guOp]⟩, by simp [guOp]⟩
        refine (two_step hT (by have := hlen i (by omega); omega) (guOp session i) A c hok.1 hr hA hc (by omega)).mono ?_
        rintro e w' ⟨rfl, hT', hk, hb⟩
        rw [guStep hs1 i (by omega)] at hT'
        have l1 := hD.lt
        have l2 := hU.lt
        exact ⟨rfl, _, hT', ⟨fun h => h.elim hTd.1 (fun h => by omega), fun h => h.elim hTd.2 (fun h => by omega)⟩, hD.keep hk hTd.1, hU.keep hk hTd.2, hB.trans (hb.mono hBle)⟩
      have hi4 : i = 0 ∨ i = 1 ∨ i = 2 ∨ i = 3 := by omega
      have hle : ((i : Int) ≤ (r : Int)) := by omega
      have hTd0 := hTd.1
      have hrd0 : Reads wr wr.heap.size 1 (some ⟨g8, 0, none⟩) 1 (u8c [4]) := Reads.of_blk (t := 5) hD hD.lt rfl
      clear hlen hT hTd hB hU hD
      rcases hi4 with rfl | rfl | rfl | rfl
      · have h5 := h4 _ none 0 rfl (Nat.le_refl _) (fun _ _ h => by cases h) Reads.none_
        unfold opVal guOp at h5
        simp only [List.length_nil] at h5
        clear h4
        go_wp2_with fail
        refine h5.mono ?_
        rintro e w7 ⟨rfl, T', hT7, hTd7, hD7, hU7, hB7⟩
        go_wp2_with fail
        go_roundg (r + 1 - (0 + 1))
        case measure => have := Hq.out; omega
        case rel => have := Hq.out; exact ⟨1, T', by go_num, by omega, hT7, hTd7, hD7, hU7, hB7⟩
      · have h5 := h4 _ none 0 rfl (Nat.le_refl _) (fun _ _ h => by cases h) Reads.none_
        unfold opVal guOp at h5
        simp only [List.length_nil] at h5
        clear h4
        go_wp2_with fail
        refine h5.mono ?_
        rintro e w7 ⟨rfl, T', hT7, hTd7, hD7, hU7, hB7⟩
        go_wp2_with fail
        go_roundg (r + 1 - (1 + 1))
        case measure => have := Hq.out; omega
        case rel => have := Hq.out; exact ⟨2, T', by go_num, by omega, hT7, hTd7, hD7, hU7, hB7⟩
      · have h5 := h4 _ none 0 rfl (Nat.le_refl _) (fun _ _ h => by cases h) Reads.none_
        unfold opVal guOp at h5
        simp only [List.length_nil] at h5
        clear h4
        go_wp2_with fail
        refine h5.mono ?_
        rintro e w7 ⟨rfl, T', hT7, hTd7, hD7, hU7, hB7⟩
        go_wp2_with fail
        go_roundg (r + 1 - (2 + 1))
        case measure => have := Hq.out; omega
        case rel => have := Hq.out; exact ⟨3, T', by go_num, by omega, hT7, hTd7, hD7, hU7, hB7⟩
      · have hrd : Reads wr wr.heap.size 1 (some ⟨g8, 0, none⟩) 1 (u8c [4]) := hrd0
        have h5 := h4 _ (some ⟨g8, 0, none⟩) 1 rfl (Nat.le_refl _) (fun _ ad h => by injection h with h; subst h; exact .inr hTd0) hrd
        unfold opVal guOp at h5
        simp only [List.length_singleton] at h5
        clear h4 hrd hrd0
        go_wp2_with fail
        refine h5.mono ?_
        rintro e w7 ⟨rfl, T', hT7, hTd7, hD7, hU7, hB7⟩
        go_wp2_with fail
        go_roundg (r + 1 - (3 + 1))
        case measure => have := Hq.out; omega
        case rel => have := Hq.out; exact ⟨4, T', by go_num, by omega, hT7, hTd7, hD7, hU7, hB7⟩
    · have hd : decide ((i : Int) ≤ (r : Int)) = false := by simp; omega
      obtain ⟨W0, rfl⟩ : ∃ W : World, W = wr := ⟨_, rfl⟩
      obtain rfl : i = r + 1 := by omega
      have hk4 : 1 ≤ r + 1 ∧ r + 1 ≤ 4 := by omega
      obtain ⟨k, Hk⟩ : ∃ k, Hid (k = r + 1) := ⟨_, Lib.hid rfl⟩
      rw [← Hk.out] at hT hk4
      clear hq hD hU hTd hlt Hg8
      have hfld := end_state
      have hsees := two_see hT
      have hst0 : (guAt session k).see.state = (guAt session k).state := rfl
      generalize (guAt session k).see = em at *
      obtain ⟨st, ses, num, snt, snc, lat, req, on, out⟩ := em
      simp only at hst0
      have Hst0 := Lib.hid hst0
      clear hst0
      unfold endVal at hsees
      simp only at hsees
      go_wp2_with fail
      refine hsees.mono ?_
      rintro e w7 ⟨x7, rfl, hown7, hb7⟩
      obtain ⟨A7, c7, rfl⟩ := own_slice hown7
      have hT7 := hT.below hb7
      have hB7 := hB.trans (hb7.mono hB.size)
      have hlt7 := hT7.lt
      have hbE := (Below.refl w7.heap.size w7).alloc (Nat.le_refl _) (.cells #[.int .i64 st, .int .u32 ses, .int .u32 num, .int .u32 snt, .int .i64 snc, .int .i64 lat, .bool req, .bool on, .slice A7 out.length c7] 53)
      have hE := Blk.new w7 53 #[.int .i64 st, .int .u32 ses, .int .u32 num, .int .u32 snt, .int .i64 snc, .int .i64 lat, .bool req, .bool on, .slice A7 out.length c7]
      have hT8 := hT7.below hbE
      have hB8 := hB7.trans (hbE.mono hB7.size)
      clear hT hB hb7 hB7 hT7 hbE hown7 hsees
      go_wp2_with fail
      obtain ⟨gE, HgE⟩ : ∃ g, Hid (g = w7.heap.size) := ⟨_, Lib.hid rfl⟩
      have hTE : ¬ T gE := fun h => by have h1 := hlt7 _ h; have h2 := HgE.out; omega
      rw [← HgE.out] at hE ⊢
      generalize w7.alloc _ = w8 at *
      go_loopg [13] 4 (fun q v13 wr => ∃ (j : Nat) (T : Nat → Prop), v13 = .int .i64 j ∧ j + q = 4 ∧ Two w3.heap.size wr a b (guSent session k j) T ∧ ¬ T gE ∧ Blk wr gE 53 #[.int .i64 st, .int .u32 ses, .int .u32 num, .int .u32 snt, .int .i64 snc, .int .i64 lat, .bool req, .bool on, .slice A7 out.length c7] ∧ Below w.heap.size w wr)
      case atStart => exact ⟨0, _, rfl, by omega, hT8, hTE, hE, hB8⟩
      case round =>
        clear hT8 hTE hE hB8 hlt7
        obtain ⟨j, T, rfl, hq, hT, hTE, hE, hB⟩ := hrel
        by_cases hlt : j < 4
        · have Hq := Lib.hid hq
          clear hq
          have hsd := guSend (s := session) k j hk4 hlt
          have hln : (guSent session k j).log.length < 1073741600 := by rw [guSent_log]; simp
          have hsend := two_send hT hln
          rw [hsd.2.1] at hsend
          have Hsd := Lib.hid hsd
          clear hsd
          have hlt4 : ((j : Int) < 4) := by omega
          go_wp2_with fail
          refine hsend.mono ?_
          rintro e w9 ⟨x9, rfl, hown9, hh9, hk9, hb9⟩
          obtain ⟨A9, c9, rfl⟩ := own_slice hown9
          have hE9 := hE.keep hk9 hTE
          have hEl := hE.lt
          have hB9 := hB.trans (hb9.mono hBle)
          have hTE9 : ¬ T gE := hTE
          clear hown9 hsend hE hB hb9
          go_wp2_with fail
          refine (half_send hh9 hln).mono ?_
          rintro e w10 ⟨x10, rfl, hown10, hT10, hk10, hb10⟩
          obtain ⟨A10, c10, rfl⟩ := own_slice hown10
          have hE10 := hE9.keep hk10 hTE9
          have hB10 := hB9.trans (hb10.mono hBle)
          have hTE10 : ¬ grow (grow T wr w9) w9 w10 gE := fun h => by
            have l9 := hE9.lt
            have l0 := hEl
            rcases h with (h | h) | h
            · exact hTE h
            · omega
            · omega
          have hst1 : (guSent session k (j + 1)).see.state = st := by rw [Hst0.out]; exact Hsd.out.2.2
          rw [Hsd.out.1] at hT10
          replace hT10 := hT10.below (Below.refl w10.heap.size w10).drew
          replace hB10 := hB10.drew
          have hsee := two_see hT10
          generalize (guSent session k (j + 1)).see = em1 at *
          obtain ⟨st1, ses1, num1, snt1, snc1, lat1, req1, on1, out1⟩ := em1
          simp only at hst1
          subst hst1
          unfold endVal at hsee
          simp only at hsee
          clear hk10 hb10 hown10 hk9 hE9 hB9
          go_upto_region 22 with fail
          replace hE10 := hE10.drew
          go_wp2_with fail
          go_region_held3 (fun w' => w'.cell? ⟨gE, 0, none⟩ = some (.int .i64 st1)) (exact endS hE10) (first
            | (go_at_call 24; refine (hsee).mono ?_; rintro e w11 ⟨x11, rfl, hown11, hb11⟩; obtain ⟨A11, c11, rfl⟩ := own_slice hown11; replace hE10 := hE10.below hb11 hE10.lt; replace hB10 := hB10.trans (hb11.mono hB10.size); replace hT10 := hT10.below hb11; clear hown11 hb11))
          go_wp2_with fail
          go_roundg (4 - (j + 1))
          case measure => have := Hq.out; omega
          case rel => have := Hq.out; exact ⟨j + 1, _, by go_num, by omega, hT10, hTE10, hE10, hB10⟩
        · have hd4 : decide ((j : Int) < 4) = false := by simp; omega
          obtain ⟨W0, rfl⟩ : ∃ W : World, W = wr := ⟨_, rfl⟩
          obtain rfl : j = 4 := by omega
          clear hq hlt
          obtain ⟨g, hfs, hgp, hg1, hgs, hgo, hgl⟩ := guFifth (s := session) k hk4
          have hln : (guSent session k 4).log.length < 1073741600 := by rw [guSent_log]; simp
          have hsend := two_send hT hln
          rw [hfs] at hsend
          simp only at hsend
          have hdec := small_frame
          generalize hfr : (UnitM.mk 1 7 0 0 0 smallM.sign).encode = fr at *
          go_wp2_with fail
          refine hsend.mono ?_
          rintro e w9 ⟨x9, rfl, hown9, hh9, hk9, hb9⟩
          obtain ⟨A9, c9, rfl⟩ := own_slice hown9
          have hE9 := hE.keep hk9 hTE
          have hB9 := hB.trans (hb9.mono hBle)
          have hrs := half_send hh9 hln
          rw [hfs] at hrs
          simp only at hrs
          have hgE9 := hE.lt
          have hT9 := hT.lt
          clear hsend hE hB hb9 hh9 hT
          go_wp2_with fail
          refine hrs.mono ?_
          rintro e w10 ⟨x10, rfl, hown10, hT10, hk10, hb10⟩
          obtain ⟨A10, c10, rfl⟩ := own_slice hown10
          have hE10 := hE9.keep hk10 hTE
          have hB10 := hB9.trans (hb10.mono hBle)
          have hown9' := ownsRow_keep hown9 hk10 (fun x hx h => by have h1 := (hown9.lt x hx).1; have h2 := hT9 x h; omega)
          have hTE10 : ¬ grow (grow T W0 w9) w9 w10 gE := fun h => by
            have l9 := hE9.lt
            rcases h with (h | h) | h
            · exact hTE h
            · omega
            · omega
          clear hrs hown9 hown10 hk9 hk10 hb10 hE9 hB9 hTE
          go_wp2_with fail
          refine (r4decode_any A9 _ c9 w10.heap.size fr w10 (Reads.of_own hown9') (Nat.le_refl _) (own_cap hown9')).mono ?_
          rw [hdec]
          simp only
          rintro e w11 ⟨v11, rfl, hown11, hb11⟩
          obtain ⟨A11, c11, rfl⟩ := own_slice hown11
          have hE11 := hE10.below hb11 hE10.lt
          have hT11 := hT10.below hb11
          have hB11 := hB10.trans (hb11.mono hB10.size)
          unfold unitVal
          simp only
          generalize smallM.sign.length = nd at *
          have hbU := (Below.refl w11.heap.size w11).alloc (Nat.le_refl _) (.cells #[.int .i64 1, .int .u32 7, .int .u32 0, .int .u32 0, .int .i64 0, .slice A11 nd c11] 60)
          have hU := Blk.new w11 60 #[.int .i64 1, .int .u32 7, .int .u32 0, .int .u32 0, .int .i64 0, .slice A11 nd c11]
          have hE12 := hE11.below hbU hE11.lt
          have hT12 := hT11.below hbU
          have hB12 := hB11.trans (hbU.mono hB11.size)
          clear hbU hE11 hT11 hB11 hb11 hE10 hT10 hB10 hown11 hown9' hdec
          go_upto_region 27 with fail
          obtain ⟨gu, Hgu⟩ : ∃ x, Hid (x = w11.heap.size) := ⟨_, Lib.hid rfl⟩
          rw [← Hgu.out] at hU ⊢
          generalize w11.alloc (.cells #[.int .i64 1, .int .u32 7, .int .u32 0, .int .u32 0, .int .i64 0, .slice A11 nd c11] 60) = w12 at *
          have hsee := two_see hT12
          have e1 : g.see.state = 1 := hg1
          have e2 : session = g.see.session := hgs.symm
          have e3 : g.see.on = false := hgo
          have e4 : g.see.latched = g.valve.latched := rfl
          generalize g.see = em1 at *
          obtain ⟨st1, ses1, num1, snt1, snc1, lat1, req1, on1, out1⟩ := em1
          simp only at e1 e2 e3 e4
          subst e1 e2 e3
          obtain ⟨q, hq1, hq2⟩ : ∃ q, (lat1 == 131) = q ∧ (st == 4) = q := by
            refine ⟨_, rfl, ?_⟩
            rw [Bool.eq_iff_iff]
            simp only [beq_iff_eq]
            rw [Hst0.out, e4]
            exact hgl.symm
          unfold endVal at hsee
          simp only at hsee
          clear e4
          go_wp2_with fail
          refine hsee.mono ?_
          rintro e w13 ⟨x13, rfl, hown13, hb13⟩
          obtain ⟨A13, c13, rfl⟩ := own_slice hown13
          have hE13 := hE12.below hb13 hE12.lt
          have hU13 := hU.below hb13 hU.lt
          have hT13 := hT12.below hb13
          have hB13 := hB12.trans (hb13.mono hB12.size)
          have hbN := (Below.refl w13.heap.size w13).alloc (Nat.le_refl _) (.cells #[.int .i64 1, .int .u32 session, .int .u32 num1, .int .u32 snt1, .int .i64 snc1, .int .i64 lat1, .bool req1, .bool false, .slice A13 out1.length c13] 53)
          have hN := Blk.new w13 53 #[.int .i64 1, .int .u32 session, .int .u32 num1, .int .u32 snt1, .int .i64 snc1, .int .i64 lat1, .bool req1, .bool false, .slice A13 out1.length c13]
          have hE14 := hE13.below hbN hE13.lt
          have hU14 := hU13.below hbN hU13.lt
          have hT14 := hT13.below hbN
          have hB14 := hB13.trans (hbN.mono hB13.size)
          clear hE12 hU hT12 hB12 hb13 hE13 hU13 hT13 hB13 hbN hown13 hsee hfld
          go_upto_region 28 with fail
          obtain ⟨gn, Hgn⟩ : ∃ x, Hid (x = w13.heap.size) := ⟨_, Lib.hid rfl⟩
          rw [← Hgn.out] at hN ⊢
          generalize w13.alloc (.cells _ 53) = w14 at *
          have hcE := hE14.cell
          have hcU := hU14.cell
          have hcN := hN.cell
          have hfr0 := two_frame hT14 ⟨1, 0, 0, false, [], 0, 0⟩ none 0 0 ⟨by simp, by simp, by simp⟩ Reads.none_ (by omega) (by simp) (by simp)
          rw [guFrame 0 hgp hgs] at hfr0
          unfold opVal at hfr0
          simp only [List.length_nil, Option.isSome_some] at hfr0
          have Hgs := Lib.hid hgs
          have Hg1 := Lib.hid hg1
          have Hgp := Lib.hid hgp
          clear hgs hg1 hgp hgo hgl hTE10
          have hsb : session + 0 = session := by omega
          have hsm : 1 ≤ session + 1 ∧ session + 1 < 4294967296 := by omega
          have ha0 : addU session 0 = session := by unfold addU; omega
          have ha1 : addU session 1 = session + 1 := by unfold addU; omega
          rw [ha0] at hfr0
          have hS := guSame hs1 Hgp.out Hg1.out Hgs.out
          have hS2 := fun (g' : HostM) (h1 : g'.p = smallM) (h2 : g'.state = 1) (h3 : g'.session = session) => guAbove (g := g') hsm h1 h2 (by omega)
          have hgl2 : g.log.length ≤ 2 := by
            have h1 := send_log (guSent session k 4)
            rw [hfs, guSent_log] at h1
            simpa using h1
          have hrl := receive_log g (UnitM.mk 17 7 session 0 0 smallM.sign).encode
          have hes0 := encode_small (UnitM.mk 17 7 session 0 0 smallM.sign)
          have hes1 := encode_small (UnitM.mk 17 7 (session + 1) 0 0 smallM.sign)
          generalize (UnitM.mk 17 7 session 0 0 smallM.sign).encode = f0 at *
          clear ha0 hsb hfs Hst0
          go_wp2_with fail
          refine hfr0.mono ?_
          rintro e w15 ⟨v15, rfl, _, hv15, hb15⟩
          have hown15 := hv15 _ rfl
          obtain ⟨A15, c15, rfl⟩ := own_slice hown15
          have hT15 := hT14.below hb15
          have hB15 := hB14.trans (hb15.mono hB14.size)
          have hfr1 := two_frame hT15 ⟨1, 1, 0, false, [], 0, 0⟩ none 0 0 ⟨by simp, by simp, by simp⟩ Reads.none_ (by omega) (by simp) (by simp)
          rw [guFrame 1 Hgp.out Hgs.out, ha1] at hfr1
          unfold opVal at hfr1
          simp only [List.length_nil, Option.isSome_some] at hfr1
          generalize (UnitM.mk 17 7 (session + 1) 0 0 smallM.sign).encode = f1 at *
          clear hfr0 hcE hcU hcN hE14 hU14 hN hT14 hB14 ha1
          go_wp2_with fail
          refine hfr1.mono ?_
          rintro e w16 ⟨v16, rfl, _, hv16, hb16⟩
          have hown16 := hv16 _ rfl
          obtain ⟨A16, c16, rfl⟩ := own_slice hown16
          have hT16 := hT15.below hb16
          have hB16 := hB15.trans (hb16.mono hB15.size)
          have hr15 := (Reads.of_own hown15).below hb16
          obtain ⟨F3, F4, hP16, hT34⟩ := hT16.pair
          have hg16 := hT16.good
          have hlt15 := hT15.lt
          clear hfr1
          go_wp2_with fail
          refine (hostReceive_any f0.length f0 hP16.host hg16 (by omega) hr15 hb16.size (own_cap hown15) (by omega)).mono ?_
          rintro e w17 ⟨rfl, t17⟩
          have hc16 := own_cap hown16
          have hr16 := (Reads.of_own hown16).keepS t17.keep (Nat.le_refl _) (fun ad e hx => by subst e; have h1 := (hown16.lt ad.block rfl).1; have h2 := hlt15 _ (hT34 _ (.inl hx)); omega)
          have hB17 := hB16.trans ((HostTo.belowB hP16.host t17).mono hBle)
          have hg17 := hg16.receive f0
          have hI17 := t17.is_
          have hS3 := hS2 _ hS.2.1 hS.2.2.1 hS.2.2.2
          have hS1 := hS.1
          rw [hS1]
          generalize (g.receive f0).1 = g2 at *
          clear hr15 hown15 hown16 hb15 hb16 hS hS2 hT15 hT16 hB15 hB16
          go_wp2_with fail
          refine (hostReceive_any f1.length f1 hI17 hg17 (by omega) hr16 t17.keep.size hc16 (by omega)).mono ?_
          rintro e w18 ⟨rfl, t18⟩
          have hB18 := hB17.trans ((HostTo.belowB hI17 t18).mono hBle)
          have hsee := hostSee_any w3.heap.size a _ _ w18 t18.is_ (hg17.receive f1).inv
          rw [hS3.1]
          have e5 : session + 1 = (g2.receive f1).1.see.session := hS3.2.symm
          generalize (g2.receive f1).1.see = em2 at *
          obtain ⟨st2, ses2, num2, snt2, snc2, lat2, req2, on2, out2⟩ := em2
          simp only at e5
          subst e5
          unfold endVal at hsee
          simp only at hsee
          have hwr : IntKind.u32.wrap (session + 1) = session + 1 := by rw [IntKind.wrap_u32]; omega
          have hfld1 := end_session
          clear hr16 hI17 hB17 hS3 hS1 t17 t18
          go_wp2_with fail
          refine hsee.mono ?_
          rintro e w19 ⟨x19, rfl, hown19, hb19⟩
          have hB19 := hB18.trans (hb19.mono hB18.size)
          go_wp2_with fail
          go_ret
          exact ⟨rfl, hB19⟩
end Go.Proofs.YtfoldlbnkfnenaaGreat
