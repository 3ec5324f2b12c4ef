/- slices.Equal and slices.Clone at uint32; parapetlaw16.Awake. -/
import Derived.Test.YtlldgfejcjnpkaaGreatCMuxMade
import Derived.Test.YtlldgfejcjnpkaaGreatCMuxAdd
set_option linter.unusedVariables false
namespace Go.Proofs.YtlldgfejcjnpkaaGreat
open Go.RowKit
set_option maxHeartbeats 10000000
set_option maxRecDepth 100000

theorem equal32_any (A1 A2 : Option Addr) (n c1 c2 B : Nat) (l : List Int) (w : World) (h1 : Reads w B 1 A1 n (u32c l)) (h2 : Reads w B 1 A2 n (u32c l)) (hn : n < 1073741823) :
    Calls Tryz.prog 30 #[.slice A1 n c1, .slice A2 n c2] w fun e w' => e = .returned (.bool true) ∧ ∃ k, w' = w.drewN k := by
  have hl : l.length = n := by have := h1.1; simpa [u32c] using this
  have Hl := Lib.hid hl
  clear hl
  go_enter Tryz.func30, Tryz.ntmps30
  go_wp2_with fail
  go_loopw [13] (fun v13 wr => ∃ k q : Nat, k ≤ n ∧ v13 = .int .i64 k ∧ wr = w.drewN q) (fun v13 _ => n - (intOf v13).toNat)
  case atStart => exact ⟨0, 0, Nat.zero_le _, rfl, rfl⟩
  case round =>
    obtain ⟨k, q, hk, rfl, rfl⟩ := hrel
    by_cases hlt : k < n
    · obtain ⟨r, hr⟩ : ∃ r, l[k]? = some r := ⟨_, List.getElem?_eq_getElem (by rw [Hl.out]; exact hlt)⟩
      obtain ⟨a1, rfl, p0⟩ := reads_u32 h1 hlt hr
      obtain ⟨a2, rfl, r0⟩ := reads_u32 h2 hlt hr
      clear h1 h2 hr
      go_wp2_with fail
      go_quiet (fail)
      go_wp2_with fail
      exact ⟨⟨k + 1, _, by omega, by go_num, rfl⟩, by simp [intOf]; omega⟩
    · go_wp2_with fail
      go_ret
      exact ⟨rfl, q, rfl⟩
def askC : OpM := ⟨1, 0, 0, false, [], 0, 0⟩
theorem awake_frame : frameD (firstC 7) askC = some (UnitM.mk 1 7 0 0 0 (codeM 7).sign).encode := by kernel_rfl
theorem awake_decode : decodeM (UnitM.mk 1 7 0 0 0 (codeM 7).sign).encode = (UnitM.mk 1 7 0 0 0 (codeM 7).sign, 0) := by decide +kernel
theorem awake_code : ((firstC 7).receive (UnitM.mk 1 7 0 0 0 (codeM 7).sign).encode).2.2 = 0 := by decide +kernel
theorem awake_out : 0 < ((firstC 7).receive (UnitM.mk 1 7 0 0 0 (codeM 7).sign).encode).2.1.length := by decide +kernel
theorem lawAwakeM_any (w : World) : Calls Tryz.prog 26 #[] w fun e w' => e = .returned (.bool true) ∧ Below w.heap.size w w' := by
  go_enter Tryz.func26, Tryz.ntmps26
  go_wp2_with fail
  refine (muxNew_any w.heap.size w (Nat.le_refl _)).mono ?_
  rintro e w1 ⟨x, rfl, hM1, hb1⟩
  have hz1 := hb1.size
  go_wp2_with fail
  refine (made_any 7 w1 (by decide)).mono ?_
  rintro e w2 ⟨hb2, hh⟩
  rcases hh with ⟨h0, _⟩ | ⟨_, a1, ma1, b1, mb1, T1, rfl, hT1, hlo1⟩
  · exact absurd h0 (by decide)
  have hM2 := hM1.below hb2
  have hz2 := hb2.size
  have hb2' := hb1.trans (hb2.mono hz1)
  go_wp2_with fail
  refine (made_any 7 w2 (by decide)).mono ?_
  rintro e w3 ⟨hb3, hh⟩
  rcases hh with ⟨h0, _⟩ | ⟨_, a2, ma2, b2, mb2, T2, rfl, hT2, hlo2⟩
  · exact absurd h0 (by decide)
  have hM3 := hM2.below hb3
  have hT13 := (hT1.below hb3).base hz1
  have hz3 := hb3.size
  have hb3' := hb2'.trans (hb3.mono hb2'.size)
  have hM1lo := hM1.lo
  obtain ⟨F1, G1, hP1, hS1⟩ := hT13.pair
  obtain ⟨F2, G2, hP2, hS2⟩ := (hT2.base hb2'.size).pair
  have hinv := hT13.inv
  have hadd := muxAdd_new w.heap.size x a1 ma1 [] 0 _ F1 (firstC 7) w3 hM3 hP1.dev hinv (fun y hy h => by have h1 := hM1lo y hy; have h2 := hlo1 y (hS1 y (.inl h)); omega) (fun r h => by cases h) (by decide)
  clear hM1 hM2 hb1 hb2 hb3 hT1 hT2 hb2'
  go_wp2_with fail
  refine hadd.mono ?_
  rintro e w4 ⟨rfl, s, hM4, hk4⟩
  have hD2 := hP2.dev.keepS hk4 (fun y hy h => by have h1 := hlo2 y (hS2 y (.inl hy)); omega)
  have hR1 := hP1.ref.keepS hk4 (fun y hy h => by have h1 := hlo1 y (hS1 y (.inr hy)); omega)
  have hz4 := hk4.size
  have hb4 := hb3'.trans (hk4.below (B := w.heap.size) (by omega) (fun y h => h.1))
  have htw := muxAdd_twice w.heap.size x a2 ma2 _ 0 _ F2 (firstC 7) w4 hM4 hD2 (i := 0) (r := ⟨a1, ma1, s, firstC 7, 0⟩) rfl rfl
  clear hadd hM3 hP1 hP2 hk4 hT13 hD2 hb3'
  go_wp2_with fail
  refine htw.mono ?_
  rintro e w5 ⟨rfl, k5, rfl⟩
  have hbd := belowN (Below.refl w4.heap.size w4) k5
  have hM5 := hM4.below hbd
  have hR5 := hR1.below hbd
  have hb5 := hb4.trans (hbd.mono hb4.size)
  have hM4lo := hM4.lo
  have hsz : (w4.drewN k5).heap.size = w4.heap.size := rfl
  have hfr := l13Frame_any w.heap.size b1 mb1 (firstC 7) G1 askC none 0 0 (w4.drewN k5) hR5 hinv ⟨by simp [askC], by simp [askC], by simp [askC]⟩ Reads.none_ (Nat.zero_le _) (by simp [askC]) (by simp [askC])
  rw [awake_frame] at hfr
  unfold opVal at hfr
  simp only [askC, Option.isSome_some, List.length_nil] at hfr
  have Hsz := Lib.hid hsz
  clear htw hM4 hR1 hb4 hbd hR5 hsz
  generalize w4.drewN k5 = W5 at *
  have hel := encode_small (UnitM.mk 1 7 0 0 0 (codeM 7).sign)
  have hpp := dreceive_p hinv (UnitM.mk 1 7 0 0 0 (codeM 7).sign).encode
  have hc0 := awake_code
  have ho0 := awake_out
  have hdc := awake_decode
  generalize (UnitM.mk 1 7 0 0 0 (codeM 7).sign).encode = f at *
  go_wp2_with fail
  refine hfr.mono ?_
  rintro e w6 ⟨v6, rfl, _, hv6, hb6⟩
  have hown6 := hv6 f rfl
  obtain ⟨A6, c6, rfl⟩ := own_slice hown6
  have hM6 := hM5.below hb6
  have hb6' := hb5.trans (hb6.mono hb5.size)
  have hg6 := hown6.lt
  have hrc := muxReceive_ok w.heap.size x _ 0 _ A6 f.length c6 W5.heap.size f w6 hM6 (i := 0) (r := ⟨a1, ma1, s, firstC 7, 0⟩) rfl (by show (0 : Int) ≤ 0 ∧ (0 : Int) < 4294967295; decide) (by show ([] : List Rec).length < 1073741800; decide) (by rw [hdc]) (by rw [hdc]; rfl) hown6 (fun y hy h => by have h1 := (hg6 y hy).1; have h2 := (hM4lo y h).2; have h3 := Hsz.out; omega) (by omega)
  have hz6 := hb6.size
  clear hfr hv6 hM5 hb5 hb6
  generalize (firstC 7).receive f = q at *
  obtain ⟨q1, q2, q3⟩ := q
  simp only at hc0 ho0 hpp
  subst hc0
  simp only [List.nil_append, List.set_cons_zero] at hrc
  go_wp2_with fail
  refine hrc.mono ?_
  rintro e w7 ⟨v7, rfl, hown7, hto7⟩
  obtain ⟨A7, c7, rfl⟩ := own_slice hown7
  have hM7 := hto7.is_
  have hb7 := hb6'.trans (hto7.keep.below (B := w.heap.size) hb6'.size (fun y hy => (hM6.lo y hy).1))
  have hcode1 : PRow.code ⟨a1, ma1, s, q1, 0 + 1⟩ = 7 := by show q1.p.code = 7; rw [hpp]; rfl
  have hse := muxSeen_any w.heap.size x _ 0 _ w7 hM7 (i := 0) rfl (by show (0 : Int) ≤ 0 + 1 ∧ (0 : Int) + 1 < 4294967296; decide)
  rw [hcode1] at hse
  have hcd := muxCodes_any w.heap.size x _ 0 _ w7 hM7 (by simp)
  have hs7 : sortI [7] = [7] := by simp [sortI]
  have ho1 : (0 : Int) < (q2.length : Int) := by omega
  rw [List.map_cons, hcode1, List.map_nil, hs7] at hcd
  have hcode0 : PRow.code ⟨a1, ma1, s, firstC 7, 0⟩ = 7 := rfl
  rw [hcode0]
  simp only [List.length_cons, List.length_nil] at hse hcd
  clear hM7 hto7 hown7 hrc hM6 hb6' hown6 hcode0 hcode1
  go_wp2_with fail
  refine hse.mono ?_
  rintro e w8 ⟨rfl, rfl⟩
  go_wp2_with fail
  refine hcd.mono ?_
  rintro e w9 ⟨v9, rfl, hown9, hb9⟩
  obtain ⟨A9, c9, rfl⟩ := own_slice hown9
  have hb9' := hb7.trans (hb9.mono hb7.size)
  have hbA := (Below.refl w9.heap.size w9).alloc (Nat.le_refl _) (.cells #[.int .u32 7] 34)
  have heq := equal32_any A9 (some ⟨w9.heap.size, 0, none⟩) 1 c9 1 (w9.heap.size + 1) [7] (w9.alloc (.cells #[.int .u32 7] 34)) ((Reads.of_own (own_below hown9 hbA)).more (by simp)) (Reads.of_blk (Blk.new w9 34 #[.int .u32 7]) (by omega) rfl) (by decide)
  have hbE := hb9'.trans (hbA.mono hb9'.size)
  clear hown9 hcd hse
  go_wp2_with fail
  refine heq.mono ?_
  rintro e wA ⟨rfl, kA, rfl⟩
  have hbF := hbE.trans ((belowN (Below.refl _ _) kA).mono hbE.size)
  go_wp2_with fail
  go_ret
  exact ⟨rfl, hbF⟩
end Go.Proofs.YtlldgfejcjnpkaaGreat
