/- The walk of DeviceOwn. -/
import Derived.Test.YtlldgfejcjnpkaaGreatBase34
import Derived.Test.YtlldgfejcjnpkaaGreatCDOwnM
import Derived.Test.YtlldgfejcjnpkaaGreatBase30
import Derived.Deep.RegionHeld3
import Derived.Deep.RegionHeld
set_option linter.unusedVariables false
namespace Go.Proofs.YtlldgfejcjnpkaaGreat
open Go.RowKit
set_option maxHeartbeats 10000000
set_option maxRecDepth 100000

theorem TwoD.keepS {B a ma b mb : Nat} {w w' : World} {m : DevM} {T S : Nat → Prop} (h : TwoD B w a ma b mb m T) (hk : Keep S w w') (hS : ∀ x, T x → ¬ S x) : TwoD B w' a ma b mb m T := by
  obtain ⟨F1, F2, hP, hT⟩ := h.pair
  exact ⟨⟨F1, F2, ⟨hP.dev.keepS hk (fun x hx => hS x (hT x (.inl hx))), hP.ref.keepS hk (fun x hx => hS x (hT x (.inr hx))), hP.dj⟩, hT⟩, h.inv, fun x hx => by have := h.lt x hx; have := hk.size; omega⟩
theorem two_dwrite {B a ma b mb : Nat} {w : World} {m : DevM} {T : Nat → Prop} (h : TwoD B w a ma b mb m T) (n : Nat) (l : List UInt8) (hold : Bool) (A : Option Addr) (c Br : Nat) (hr : Reads w Br 1 A n (u8c l)) (hB : Br ≤ w.heap.size) (hA : A = none → n = 0) :
    Calls Tryz.prog 16 #[.pointer (some ⟨a, 0, none⟩), .slice A n c, .bool hold] w fun e w' => e = .returned (.int .i64 (m.write l hold).2) ∧ HalfD B w' a ma b mb (m.write l hold).1 m T (grow T w w') ∧ Keep T w w' ∧ Below B w w' := by
  obtain ⟨F1, F2, hP, hT⟩ := h.pair
  refine (devWrite_any B a ma m F1 A n c Br l hold w hP.dev h.inv hr hB hA).mono ?_
  rintro e w' ⟨he, t⟩
  refine ⟨he, ⟨⟨_, F2, hP.onDev t, ?_, fun x hx => hT x (.inr hx)⟩, h.inv.write l hold, h.inv, grow_lt h.lt t.keep.size, fun x hx => .inl hx⟩, t.keep.mono (fun x _ hx => hT x (.inl hx)), DevTo.belowB hP.dev t⟩
  rintro x (hx | hx)
  · exact .inl (hT x (.inl hx))
  · exact .inr hx
theorem half_dwrite {B a ma b mb : Nat} {w : World} {m : DevM} {T T' : Nat → Prop} (n : Nat) (l : List UInt8) (hold : Bool) (h : HalfD B w a ma b mb (m.write l hold).1 m T T') (A : Option Addr) (c Br : Nat) (hr : Reads w Br 1 A n (u8c l)) (hB : Br ≤ w.heap.size) :
    Calls Tryz.prog 17 #[.pointer (some ⟨b, 0, none⟩), .slice A n c, .bool hold] w fun e w' => e = .returned (.int .i64 (m.write l hold).2) ∧ TwoD B w' a ma b mb (m.write l hold).1 (grow T' w w') ∧ Keep T w w' ∧ Below B w w' := by
  obtain ⟨F1, F2, hP, hT, hT2⟩ := h.pair
  refine (rdWrite_any B b mb m F2 A n c Br l hold w hP.ref hr hB h.inv).mono ?_
  rintro e w' ⟨he, t⟩
  refine ⟨he, ⟨⟨_, _, hP.onRef t, ?_⟩, h.inv1, grow_lt h.lt t.keep.size⟩, t.keep.mono (fun x _ hx => hT2 x hx), RDTo.belowB hP.ref t⟩
  rintro x (hx | hx)
  · exact .inl (hT x hx)
  · rcases hx with hx | hx
    · exact .inl (h.sub x (hT2 x hx))
    · exact .inr hx
theorem deviceOwn_law (A1 A2 : Option Addr) (n1 c1 n2 c2 : Nat) (l1 l2 : List UInt8) (w : World) (hr1 : Reads w w.heap.size 1 A1 n1 (u8c l1)) (hr2 : Reads w w.heap.size 1 A2 n2 (u8c l2)) (hc1 : n1 ≤ c1) (hc2 : n2 ≤ c2) :
    Calls Tryz.prog 3 #[.slice A1 n1 c1, .slice A2 n2 c2] w fun e w' => e = .returned (.bool true) ∧ Below w.heap.size w w' := by
  have hl1 : l1.length = n1 := by have := hr1.1; simpa [u8c] using this
  have hl2 : l2.length = n2 := by have := hr2.1; simpa [u8c] using this
  by_cases hn : n1 = 1 ∧ n2 = 2
  case neg =>
    have hcase : ¬ n1 = 1 ∨ ¬ n2 = 2 := by omega
    go_enter Tryz.func3, Tryz.ntmps3
    go_wp2_with fail
    refine (lawAwakeD_any _).mono ?_
    rintro e w1 ⟨rfl, hb1⟩
    by_cases h2 : n1 = 1
    · subst h2
      have h3 : ¬ n2 = 2 := fun h => hn ⟨rfl, h⟩
      have g3 : ((n2 : Int) != 2) = true := by simpa using (show ¬ (n2 : Int) = 2 by omega)
      have g4 : ((n2 : Int) = 2) = False := by simp; omega
      clear hn hcase hl1 hl2
      go_wp2_with fail
      go_ret
      exact ⟨rfl, hb1⟩
    · have g3 : ((n1 : Int) != 1) = true := by simpa using (show ¬ (n1 : Int) = 1 by omega)
      have g4 : ((n1 : Int) = 1) = False := by simp; omega
      clear hn hcase hl1 hl2
      go_wp2_with fail
      go_ret
      exact ⟨rfl, hb1⟩
  case pos =>
  obtain ⟨rfl, rfl⟩ := hn
  have Hl1 := Lib.hid hl1
  have Hl2 := Lib.hid hl2
  clear hl1 hl2
  go_enter Tryz.func3, Tryz.ntmps3
  go_wp2_with fail
  refine (lawAwakeD_any _).mono ?_
  rintro e w1 ⟨rfl, hb1'⟩
  go_wp2_with fail
  refine (memNew16_any w1).mono ?_
  rintro e w2 ⟨ma, rfl, hM2, hb2⟩
  have hz1 := hb1'.size
  have hb2' := hb1'.trans (hb2.mono hz1)
  go_wp2_with fail
  refine (rmemNew16_any w2).mono ?_
  rintro e w3 ⟨mb, rfl, hM3, hb3⟩
  have hb3' := hb2'.trans (hb3.mono hb2'.size)
  obtain ⟨F1, F2, hMs⟩ := mems_new hM2 hb2 hM3 hb3
  have hz3 : w1.heap.size ≤ w3.heap.size := Nat.le_trans hb2.size hb3.size
  have hq3 := hb2.trans (hb3.mono hb2.size)
  clear hM2 hM3 hb2 hb3 hb2'
  go_wp2_with fail
  refine (lawSmall_any w3).mono ?_
  rintro e w4 ⟨rfl, hb4⟩
  have hMs4 := hMs.below hb4
  have hb4' := hb3'.trans (hb4.mono hb3'.size)
  have hz4 : w1.heap.size ≤ w4.heap.size := Nat.le_trans hz3 hb4.size
  have hq4 := hq3.trans (hb4.mono hz3)
  clear hMs hb4 hb3' hq3
  unfold parVal smallM
  simp only
  go_wp2_with fail
  refine (devFirst_any ma F1 w1.heap.size 9 w4 hMs4.m1 hMs4.lo1 hz4 ⟨by decide, by decide⟩).mono ?_
  rintro e w5 ⟨a, F3, rfl, hI5, hk5, hs5⟩
  obtain ⟨hM5, hlo5, hdj5⟩ := hMs4.dev hk5 hs5
  have hq5 : Below w1.heap.size w1 w5 := hq4.trans (hk5.below hz4 (fun x hx => (hMs4.lo1 x hx).1))
  clear hMs4 hk5 hs5 hq4 hb4'
  go_wp2_with fail
  refine (lawSmall_any w5).mono ?_
  rintro e w6 ⟨rfl, hb6⟩
  have hI6 := hI5.below hb6
  have hM6 := hM5.below hb6
  have hlo6 : ∀ x, F2 x → w1.heap.size ≤ x ∧ x < w6.heap.size := fun x hx => by have := hlo5 x hx; have := hb6.size; omega
  have hz6 : w1.heap.size ≤ w6.heap.size := Nat.le_trans hq5.size hb6.size
  have hq6 := hq5.trans (hb6.mono hq5.size)
  clear hI5 hM5 hlo5 hb6 hq5
  unfold parVal smallM
  simp only
  go_wp2_with fail
  refine (rdFirst_any mb F2 w1.heap.size 9 w6 hM6 hlo6 (by decide)).mono ?_
  rintro e w7 ⟨b, rfl, hR7, hk7⟩
  have hT := two_newD (first_inv 9 ⟨by decide, by decide⟩) hI6 hdj5 hR7 hk7
  have hq7 : Below w1.heap.size w1 w7 := hq6.trans (hk7.below hz6 (fun x hx => (hlo6 x hx).1))
  have hb7' := hb1'.trans (hq7.mono hz1)
  clear hM6 hlo6 hI6 hdj5 hR7 hk7 hq6
  obtain ⟨T0, hT0⟩ : ∃ T, TwoD w1.heap.size w7 a ma b mb (DevM.first 9) T := ⟨_, hT⟩
  clear hT
  have hr17 := hr1.below hb7'
  go_wp2_with fail
  refine (spare_any A1 1 c1 w.heap.size l1 w7 hr17 hb7'.size (by omega)).mono ?_
  rintro e w8 ⟨rfl, hown8, hb8⟩
  have hT8 := hT0.below hb8
  have hlt7 := hT0.lt
  have hb8' := hb7'.trans (hb8.mono hb7'.size)
  have hin8 := own_prefix hown8 (n := 1) (by omega)
  have hst1 := spare_take l1
  rw [Hl1.out] at hst1
  rw [hst1] at hin8
  have hwr := two_dwrite hT8 1 l1 false (some ⟨w7.heap.size, 0, none⟩) (1 + 9) w8.heap.size (Reads.of_own hin8) (Nat.le_refl _) (fun e => by cases e)
  have how : (DevM.first 9).write l1 false = (DevM.dAt l1 l2 0, 0) := DevM.d_write l1 l2 Hl1.out
  have hcode : ((DevM.first 9).write l1 false).2 = 0 := by rw [how]
  have hmst : ((DevM.first 9).write l1 false).1 = DevM.dAt l1 l2 0 := by rw [how]
  clear hst1 hT0 hr17
  go_wp2_with fail
  refine hwr.mono ?_
  rintro e w9 ⟨rfl, hM9, hk9, hb9⟩
  rw [hcode]
  have hz78 : w7.heap.size < w8.heap.size := (hin8.lt _ rfl).2
  have hz89 := hk9.size
  have hown9 := ownsRow_keep hown8 hk9 (fun x hx h => by have h1 := hlt7 x h; simp [Value.ownBlock] at hx; omega)
  have hin9 := ownsRow_keep hin8 hk9 (fun x hx h => by have h1 := hlt7 x h; simp [Value.ownBlock] at hx; omega)
  have hb9' := hb8'.trans (hb9.mono hz1)
  have hr19 := hr1.below hb9'
  have hmw := half_dwrite 1 l1 false hM9 A1 c1 w.heap.size hr19 hb9'.size
  clear hwr hT8 hown8 hin8 hb8 hb8' hk9 hb9 hM9
  go_wp2_with fail
  refine hmw.mono ?_
  rintro e w10 ⟨rfl, hT10, hk10, hb10⟩
  rw [hcode]
  rw [hmst] at hT10
  have hown10 := ownsRow_keep hown9 hk10 (fun x hx h => by have h1 := hlt7 x h; simp [Value.ownBlock] at hx; omega)
  have hin10 := ownsRow_keep hin9 hk10 (fun x hx h => by have h1 := hlt7 x h; simp [Value.ownBlock] at hx; omega)
  have hb10' := hb9'.trans (hb10.mono hz1)
  have hr110 := hr1.below hb10'
  have hkp := kept_any (some ⟨w7.heap.size, 0, none⟩) A1 1 (1 + 9) c1 w10.heap.size l1 w10 (Reads.of_own hown10) (hr110.more hb10'.size) (Nat.le_refl _) (by omega)
  clear hmw hown9 hin9 hk10 hb10 hb9' hr19 hown10 hr110 how hcode hmst
  go_wp2_with fail
  refine hkp.mono ?_
  rintro e w11 ⟨rfl, d11, rfl⟩
  have hbD := belowN (Below.refl w10.heap.size w10) d11
  have hT11 := hT10.below hbD
  have hin11 := own_below hin10 hbD
  have hb11 := hb10'.trans (hbD.mono hb10'.size)
  clear hkp hT10 hin10 hb10' hbD
  generalize w10.drewN d11 = W9 at *
  have hbL := (Below.refl W9.heap.size W9).alloc (Nat.le_refl _) (.cells #[.slice (some ⟨w7.heap.size, 0, none⟩) 1 (1 + 9)] 22)
  have hLrow := own_full W9 #[.slice (some ⟨w7.heap.size, 0, none⟩) 1 (1 + 9)] 22 w.heap.size hb11.size (by unfold maxLen; simp)
  have hT12 := hT11.below hbL
  have hin12 := own_below hin11 hbL
  have hb12 := hb11.trans (hbL.mono hb11.size)
  have hz7 : w.heap.size ≤ w7.heap.size := hb7'.size
  have hHeld : Held w.heap.size (W9.alloc (.cells #[.slice (some ⟨w7.heap.size, 0, none⟩) 1 (1 + 9)] 22)) [.slice (some ⟨w7.heap.size, 0, none⟩) 1 (1 + 9)] :=
    ⟨fun v hv => by rw [List.mem_singleton.1 hv]; exact ⟨1, _, by omega, own_base hin12 hz7⟩, List.pairwise_singleton _ _⟩
  have hltT9 := hT11.lt
  have hgT : ¬ grow (grow T0 w8 w9) w9 w10 w7.heap.size := by
    rintro ((h | h) | h)
    · have := hlt7 _ h; omega
    · omega
    · omega
  have hLT : ¬ grow (grow T0 w8 w9) w9 w10 W9.heap.size := fun h => by have := hltT9 _ h; omega
  clear hT11 hin11 hin12 hb11 hbL
  generalize grow (grow T0 w8 w9) w9 w10 = T1 at *
  go_wp2_with fail
  obtain ⟨L0, HL0⟩ : ∃ x, Hid (x = W9.heap.size) := ⟨_, Lib.hid rfl⟩
  rw [← HL0.out] at hLrow hLT ⊢
  generalize W9.alloc (.cells _ 22) = W10 at *
  go_loopg [15, 16] 4 (fun q v11 v12 wr => ∃ (i : Nat) (T : Nat → Prop) (VS : List Value) (A : Option Addr) (c : Nat), v11 = .slice A (2 * i + 1) c ∧ v12 = .int .i64 ((i : Int) + 1) ∧ i + q = 4 ∧ wr.ownsRow w.heap.size 22 1 (.slice A (2 * i + 1) c) (2 * i + 1) VS ∧ Held w.heap.size wr VS ∧ TwoD w1.heap.size wr a ma b mb (DevM.dAt l1 l2 i) T ∧ (∀ v ∈ VS, ∀ x, v.ownBlock = some x → ¬ T x) ∧ (∀ x, (Value.slice A (2 * i + 1) c).ownBlock = some x → ¬ T x) ∧ Below w.heap.size w wr)
  case atStart => exact ⟨0, _, _, _, _, rfl, rfl, by omega, hLrow, hHeld, hT12, fun v hv x hx => by rw [List.mem_singleton.1 hv] at hx; injection hx with hx; subst hx; exact hgT, fun x hx => by injection hx with hx; subst hx; exact hLT, hb12⟩
  case round =>
    clear hLrow hHeld hT12 hgT hLT hb12 hltT9 hlt7
    obtain ⟨i, T, VS, AL, cL, rfl, rfl, hq, hL, hH, hT, hVT, hLT, hB⟩ := hrel
    by_cases hlt : i < 4
    · have Hq := Lib.hid hq
      clear hq
      have hle : ((i : Int) + 1 ≤ 4) := by omega
      have hln : (DevM.dAt l1 l2 i).log.length < 1073741600 := by rw [DevM.dAt_log]; simp
      have hrc := DevM.d_receive l1 l2 Hl2.out i hlt
      have hTlt := hT.lt
      have hVlt := hH.lt
      have hLlt := fun x hx => (hL.lt x hx).2
      have hBr := hB.size
      have hfrm := two_frameD hT ⟨(i : Int) + 1, 1, 0, false, l2, 0, 0⟩ A2 c2 w.heap.size ⟨by simp, by simp, by simp⟩ (by rw [Hl2.out]; exact hr2.below hB) hB.size (by rw [Hl2.out]; exact hc2) (by rw [Hl2.out]; omega)
      rw [DevM.d_frame l1 l2 i hlt] at hfrm
      unfold opVal at hfrm
      simp only [Option.isSome_some] at hfrm
      rw [Hl2.out] at hfrm
      have hes := encode_small (DevM.dUnit l2 i)
      have has := encode_small (DevM.dAns l1 i)
      generalize (DevM.dUnit l2 i).encode = fb at *
      generalize (DevM.dAns l1 i).encode = fa at *
      go_wp2_with fail
      refine hfrm.mono ?_
      rintro e wc ⟨vc, rfl, _, hvc, hbc⟩
      have hownc := hvc fb rfl
      obtain ⟨Ac, cc, rfl⟩ := own_slice hownc
      have hTc := hT.below hbc
      have hLc := own_below hL hbc
      have hHc := hH.below hbc
      have hBc := hB.trans (hbc.mono hB.size)
      have hgc := hownc.lt
      have hzc := hbc.size
      clear hfrm hT hL hH hB hbc hvc
      go_wp2_with fail
      refine (spare_any Ac fb.length cc wc.heap.size fb wc (Reads.of_own hownc) (Nat.le_refl _) (by omega)).mono ?_
      rintro e wd ⟨rfl, hownd, hbd⟩
      have hTd := hTc.below hbd
      have hLd := own_below hLc hbd
      have hHd := hHc.below hbd
      have hfd := own_below hownc hbd
      have hBd := hBc.trans (hbd.mono hBc.size)
      have hpd := own_prefix hownd (n := fb.length) (by omega)
      rw [spare_take] at hpd
      have hgd : wc.heap.size < wd.heap.size := (hownd.lt _ rfl).2
      have hTd2 : ¬ T wc.heap.size := fun h => by have := hTlt _ h; omega
      have hTfr : ∀ x, (Value.slice Ac fb.length cc).ownBlock = some x → ¬ T x := fun x hx h => by have h1 := hTlt x h; have h2 := (hgc x hx).1; omega
      have hhr := two_receiveD hTd hln fb.length fb (some ⟨wc.heap.size, 0, none⟩) (fb.length + 9) wd.heap.size (Reads.of_own hpd) (Nat.le_refl _) (by omega) (by omega)
      have hhm := fun {W : World} {T' : Nat → Prop} (h : HalfD w1.heap.size W a ma b mb ((DevM.dAt l1 l2 i).receive fb).1 (DevM.dAt l1 l2 i) T T') (hr : Reads W W.heap.size 1 Ac fb.length (u8c fb)) => half_receiveD fb.length fb h hln Ac cc W.heap.size hr (Nat.le_refl _) (own_cap hownc)
      rw [hrc] at hhr hhm
      simp only at hhr hhm
      clear hTc hLc hHc hbd hBc hrc hTd hownc
      go_wp2_with fail
      refine hhr.mono ?_
      rintro e we ⟨xe, Te, rfl, hxe, hMe, hse, hape, hke, hbe⟩
      obtain ⟨Ae, ce, rfl⟩ := own_slice hxe
      have hLe := ownsRow_keep hLd hke hLT
      have hHe := hHd.keep hke hVT
      have hfe := ownsRow_keep hfd hke hTfr
      have hre := ownsRow_keep hownd hke (fun x hx => by injection hx with hx; subst hx; exact hTd2)
      have hBe := hBd.trans (hbe.mono hz1)
      have hze := hke.size
      have hge := hxe.lt
      have hmr := hhm hMe (Reads.of_own hfe)
      clear hhr hhm hLd hHd hfd hownd hpd hke hbe hBd hMe
      go_wp2_with fail
      refine hmr.mono ?_
      rintro e wf ⟨xf, Tf, rfl, hxf, hTf, hsf, _, hkf, hbf⟩
      obtain ⟨Af, cf, rfl⟩ := own_slice hxf
      have hLf := ownsRow_keep hLe hkf hLT
      have hHf := hHe.keep hkf hVT
      have hff := ownsRow_keep hfe hkf hTfr
      have hrf := ownsRow_keep hre hkf (fun x hx => by injection hx with hx; subst hx; exact hTd2)
      have hTe0 : ∀ x, (Value.slice Ae fa.length ce).ownBlock = some x → ¬ T x := fun x hx h => by have h1 := hTlt x h; have h2 := (hge x hx).1; omega
      have hxef := ownsRow_keep hxe hkf hTe0
      have hBf := hBe.trans (hbf.mono hz1)
      have hzf := hkf.size
      have hcv1 := conv_reads (c := ce) (Reads.of_own hxef)
      have hcv2 := conv_reads (c := cf) (Reads.of_own hxf)
      have hkp := kept_any (some ⟨wc.heap.size, 0, none⟩) Ac fb.length (fb.length + 9) cc wf.heap.size fb wf (Reads.of_own hrf) (Reads.of_own hff) (Nat.le_refl _) (by omega)
      have hT4L : ∀ x, (Value.slice AL (2 * i + 1) cL).ownBlock = some x → ¬ Tf x := fun x hx h => by
        have h1 := hLlt x hx
        rcases hsf x h with h | h
        · rcases hse x h with h | h
          · exact hLT x hx h
          · omega
        · omega
      have hT4V : ∀ v ∈ VS, ∀ x, v.ownBlock = some x → ¬ Tf x := fun v hv x hx h => by
        have h1 := hVlt v hv x hx
        rcases hsf x h with h | h
        · rcases hse x h with h | h
          · exact hVT v hv x hx h
          · omega
        · omega
      have hT4x : ∀ x, (Value.slice Ae fa.length ce).ownBlock = some x → ¬ Tf x := fun x hx h => by
        have h1 := (hge x hx).2
        rcases hsf x h with h | h
        · exact hape x hx h
        · omega
      have hT4f : ¬ Tf wc.heap.size := fun h => by
        rcases hsf _ h with h | h
        · rcases hse _ h with h | h
          · exact hTd2 h
          · omega
        · omega
      clear hmr hLe hHe hfe hre hBe hkf hbf hxf hse hsf hape hxe hTlt
      go_wp2_with fail
      refine hkp.mono ?_
      rintro e wg0 ⟨rfl, dg, rfl⟩
      have hbD := belowN (Below.refl wf.heap.size wf) dg
      have hzg : (wf.drewN dg).heap.size = wf.heap.size := rfl
      have hTg := hTf.below hbD
      have hLg := own_below hLf hbD
      have hHg := hHf.below hbD
      have hsg := own_below hxef hbD
      have hrg := own_below hrf hbD
      have hBg := hBf.trans (hbD.mono hBf.size)
      generalize wf.drewN dg = wg at *
      have hpg := own_prefix hrg (n := fb.length) (by omega)
      have hH1 := hHg.add (n := fb.length) (by omega) hpg (by omega) (fun u hu x hx hx2 => by
        have hx3 : some wc.heap.size = some x := hx2
        injection hx3 with hx3
        have := hVlt u hu x hx
        omega)
      have hH2 := hH1.add (n := fa.length) (by omega) hsg (by omega) (fun u hu x hx hx2 => by
        have h2 := (hge x hx2).1
        rcases List.mem_append.1 hu with h1 | h1
        · have := hVlt u h1 x hx; omega
        · rw [List.mem_singleton.1 h1] at hx
          have hx3 : some wc.heap.size = some x := hx
          injection hx3 with hx3
          omega)
      have Hzg := Lib.hid hzg
      obtain ⟨i0, hi0, hz0, hz1l, hz2'⟩ := info_parts list_info
      have hBA0 := hBg.size
      clear hzg
      have hLA := hLg.alloc (.cells #[.slice (some ⟨wc.heap.size, 0, none⟩) fb.length (fb.length + 9), .slice Ae fa.length ce] 22)
      have hbA := (Below.refl wg.heap.size wg).alloc (Nat.le_refl _) (.cells #[.slice (some ⟨wc.heap.size, 0, none⟩) fb.length (fb.length + 9), .slice Ae fa.length ce] 22)
      have hTA := hTg.below hbA
      have hHA := hH2.below hbA
      have hBA := hBg.trans (hbA.mono hBg.size)
      have hrdA := Reads.of_blk (Blk.new wg 22 #[.slice (some ⟨wc.heap.size, 0, none⟩) fb.length (fb.length + 9), .slice Ae fa.length ce]) (B := wg.heap.size + 1) (size := 1) (n := 2) (by omega) rfl
      clear hkp hLg hHg hsg hrg hpg hH1 hH2 hTf hLf hHf hxef hff hrf hTg hBf hBg hbD hcv1 hcv2
      go_wp2_with (at_builtin; refine wpList_append_any _ rfl (.tmp 131) (.tmp 134) _ rfl w.heap.size 22 i0 _ 1 24 Tryz.underlying46 hi0 hz0 hz1l hz2' rfl (by omega) (.slice AL (2 * i + 1) cL) (2 * i + 1) VS rfl hLA (wg.heap.size + 1) (some ⟨wg.heap.size, 0, none⟩) 2 2 [.slice (some ⟨wc.heap.size, 0, none⟩) fb.length (fb.length + 9), .slice Ae fa.length ce] rfl hrdA (by simp [Value.oneCell']) (by unfold maxLen; omega) (by omega) (by simp; omega) ?_; intro v9 wz hownz hgz hatz; obtain ⟨A9, c9, rfl⟩ := own_slice hownz)
      have hkz := Keep.grown (S := fun x => (Value.slice AL (2 * i + 1) cL).ownBlock = some x) (Keep.refl _ _) hgz (fun k hk _ => hk)
      have hTz := hTA.keepS hkz (fun x hx hS => hT4L x hS hx)
      have hHz := hHA.keep hkz (fun v hv x hx hS => by
        obtain ⟨cs, hbk⟩ := own_obj hLA hS
        obtain ⟨nn, xs, _, hrow⟩ := hHA.row v hv
        exact own_ne hrow hbk (by decide) hx)
      have hBz := hBA.grown hgz hBA.size (fun k hk => (hLA.lt k hk).1)
      have hT4lt := hTA.lt
      have hVz : ∀ v ∈ VS ++ [.slice (some ⟨wc.heap.size, 0, none⟩) fb.length (fb.length + 9)] ++ [.slice Ae fa.length ce], ∀ x, v.ownBlock = some x → ¬ Tf x := by
        intro v hv x hx
        rcases List.mem_append.1 hv with h1 | h1
        · rcases List.mem_append.1 h1 with h2 | h2
          · exact hT4V v h2 x hx
          · rw [List.mem_singleton.1 h2] at hx
            injection hx with hx
            subst hx
            exact hT4f
        · rw [List.mem_singleton.1 h1] at hx
          exact hT4x x hx
      have hLz : ∀ x, (Value.slice A9 (2 * i + 1 + 2) c9).ownBlock = some x → ¬ Tf x := by
        intro x hx
        rcases hatz with h1 | h1
        · exact hT4L x (h1 ▸ hx)
        · rw [h1] at hx
          injection hx with hx
          subst hx
          exact fun h => by have := hT4lt _ h; omega
      have e21 : 2 * i + 1 + 2 = 2 * (i + 1) + 1 := by omega
      have eVS : VS ++ [Value.slice (some ⟨wc.heap.size, 0, none⟩) fb.length (fb.length + 9), .slice Ae fa.length ce] = VS ++ [.slice (some ⟨wc.heap.size, 0, none⟩) fb.length (fb.length + 9)] ++ [.slice Ae fa.length ce] := by simp
      rw [eVS] at hownz
      clear hLA hbA hTA hHA hBA hrdA hkz hatz hgz eVS
      go_wp2_with fail
      rw [e21] at hownz hLz ⊢
      go_roundg (4 - (i + 1))
      case measure => have := Hq.out; omega
      case rel => have := Hq.out; exact ⟨i + 1, Tf, _, A9, c9, rfl, by go_num, by omega, hownz, hHz, hTz, hVz, hLz, hBz⟩
    · obtain rfl : i = 4 := by omega
      have hle : ¬ ((4 : Nat) : Int) + 1 ≤ 4 := by omega
      obtain ⟨W, rfl⟩ : ∃ X : World, X = wr := ⟨_, rfl⟩
      have hln : (DevM.dAt l1 l2 4).log.length < 1073741600 := by rw [DevM.dAt_log]; simp
      have hseeF := fun {X : World} {T' : Nat → Prop} (h : TwoD w1.heap.size X a ma b mb (DevM.dAt l1 l2 4) T') => two_seeD h
      have hfrF := fun {X : World} {T' : Nat → Prop} (h : TwoD w1.heap.size X a ma b mb (DevM.dAt l1 l2 4) T') (hr : Reads X w.heap.size 1 A2 2 (u8c l2)) (hz : w.heap.size ≤ X.heap.size) => two_frameD h ⟨4, 1, 0, false, l2, 0, 0⟩ A2 c2 w.heap.size ⟨by simp, by simp, by simp⟩ (by rw [Hl2.out]; exact hr) hz (by rw [Hl2.out]; exact hc2) (by rw [Hl2.out]; omega)
      obtain ⟨ff, hff⟩ : ∃ ff, frameD (DevM.dAt l1 l2 4) ⟨4, 1, 0, false, l2, 0, 0⟩ = some ff := ⟨_, rfl⟩
      have hfl := frameD_len hff (by rw [Hl2.out]; omega)
      rw [hff] at hfrF
      unfold opVal at hfrF
      simp only [Option.isSome_some] at hfrF
      rw [Hl2.out] at hfrF
      have e1 : true = (DevM.dAt l1 l2 4).see.on := rfl
      have e2 : l2 = (DevM.dAt l1 l2 4).see.out := rfl
      generalize (DevM.dAt l1 l2 4).see = em at *
      obtain ⟨st, ses, num, snt, snc, lat, req, on, out⟩ := em
      simp only at e1 e2
      subst e1 e2
      unfold endVal at hseeF
      simp only at hseeF
      rw [Hl2.out] at hseeF
      have hseeW := hseeF hT
      clear hq hlt hff
      generalize DevM.dAt l1 l2 4 = m4 at *
      go_wp2_with fail
      refine hseeW.mono ?_
      rintro e wa ⟨xa, rfl, howna, hba⟩
      obtain ⟨Aa, ca, rfl⟩ := own_slice howna
      have hLlt := fun x hx => (hL.lt x hx).2
      have hVlt := hH.lt
      have hza := hba.size
      have hBr := hB.size
      have hTa := hT.below hba
      have hLa := own_below hL hba
      have hHa := hH.below hba
      have hBa := hB.trans (hba.mono hBr)
      have hTlt := hT.lt
      have hseeA := hseeF hTa
      clear hseeW hba hT hL hH hB
      go_wp2_with fail
      refine hseeA.mono ?_
      rintro e wb ⟨xb, rfl, hownb, hbb⟩
      obtain ⟨Ab, cb, rfl⟩ := own_slice hownb
      have hzb := hbb.size
      have hTb := hTa.below hbb
      have hLb := own_below hLa hbb
      have hHb := hHa.below hbb
      have hBb := hBa.trans (hbb.mono hBa.size)
      have hsa := own_below howna hbb
      have hga := fun x hx => (howna.lt x hx)
      have hgb := fun x hx => (hownb.lt x hx)
      have hH1 := hHb.add (n := 2) (by omega) hsa (by omega) (fun u hu x hx hx2 => by have h1 := hVlt u hu x hx; have h2 := (hga x hx2).1; omega)
      have hH2 := hH1.add (n := 2) (by omega) hownb (by omega) (fun u hu x hx hx2 => by
        have h2 := (hgb x hx2).1
        rcases List.mem_append.1 hu with h1 | h1
        · have := hVlt u h1 x hx; omega
        · rw [List.mem_singleton.1 h1] at hx
          have := (hga x hx).2
          omega)
      have hVb : ∀ v ∈ VS ++ [Value.slice Aa 2 ca] ++ [Value.slice Ab 2 cb], ∀ x, v.ownBlock = some x → ¬ T x := by
        intro v hv x hx h
        have h3 := hTlt x h
        rcases List.mem_append.1 hv with h1 | h1
        · rcases List.mem_append.1 h1 with h2 | h2
          · exact hVT v h2 x hx h
          · rw [List.mem_singleton.1 h2] at hx; have := (hga x hx).1; omega
        · rw [List.mem_singleton.1 h1] at hx; have := (hgb x hx).1; omega
      clear hseeA hTa hLa hHa hBa howna hbb hHb hH1 hsa hownb
      have hbE := ((Below.refl wb.heap.size wb).alloc (Nat.le_refl _) (.cells #[.int .i64 st, .int .u32 ses, .int .u32 num, .int .u32 snt, .int .i64 snc, .int .i64 lat, .bool req, .bool true, .slice Aa 2 ca] 57)).alloc (by simp) (.cells #[.int .i64 st, .int .u32 ses, .int .u32 num, .int .u32 snt, .int .i64 snc, .int .i64 lat, .bool req, .bool true, .slice Ab 2 cb] 57)
      have hE1 := (Blk.new wb 57 #[.int .i64 st, .int .u32 ses, .int .u32 num, .int .u32 snt, .int .i64 snc, .int .i64 lat, .bool req, .bool true, .slice Aa 2 ca]).alloc (.cells #[.int .i64 st, .int .u32 ses, .int .u32 num, .int .u32 snt, .int .i64 snc, .int .i64 lat, .bool req, .bool true, .slice Ab 2 cb] 57)
      have hE2 := Blk.new (wb.alloc (.cells #[.int .i64 st, .int .u32 ses, .int .u32 num, .int .u32 snt, .int .i64 snc, .int .i64 lat, .bool req, .bool true, .slice Aa 2 ca] 57)) 57 #[.int .i64 st, .int .u32 ses, .int .u32 num, .int .u32 snt, .int .i64 snc, .int .i64 lat, .bool req, .bool true, .slice Ab 2 cb]
      rw [show (wb.alloc (.cells #[.int .i64 st, .int .u32 ses, .int .u32 num, .int .u32 snt, .int .i64 snc, .int .i64 lat, .bool req, .bool true, .slice Aa 2 ca] 57)).heap.size = wb.heap.size + 1 by simp] at hE2
      have hTE := hTb.below hbE
      have hLE := own_below hLb hbE
      have hHE := hH2.below hbE
      have hBE := hBb.trans (hbE.mono hBb.size)
      have hVe : ∀ x, (Value.slice AL 9 cL).ownBlock = some x → ¬ T x := hLT
      clear hTb hLb hH2 hBb hbE
      go_upto_region 24 with fail
      obtain ⟨g1, Hg1⟩ : ∃ x, Hid (x = wb.heap.size) := ⟨_, Lib.hid rfl⟩
      rw [← Hg1.out] at hE1 hE2 ⊢
      generalize (wb.alloc _).alloc _ = wE at *
      obtain ⟨i0, hi0, hz0, hz1l, hz2'⟩ := info_parts list_info
      have hLA := hLE.alloc (.cells #[.slice Aa 2 ca, .slice Ab 2 cb] 22)
      have hbA := (Below.refl wE.heap.size wE).alloc (Nat.le_refl _) (.cells #[.slice Aa 2 ca, .slice Ab 2 cb] 22)
      have hTA := hTE.below hbA
      have hHA := hHE.below hbA
      have hBA := hBE.trans (hbA.mono hBE.size)
      have hrdA := Reads.of_blk (Blk.new wE 22 #[.slice Aa 2 ca, .slice Ab 2 cb]) (B := wE.heap.size + 1) (size := 1) (n := 2) (by omega) rfl
      have hc1 := hE1.cell
      have hc2' := hE2.cell
      have hBEs := hBE.size
      clear hLE hTE hHE hBE hbA
      go_wp2_with (at_builtin; refine wpList_append_any _ rfl (.tmp 140) (.tmp 145) _ rfl w.heap.size 22 i0 _ 1 24 Tryz.underlying46 hi0 hz0 hz1l hz2' rfl (by omega) (.slice AL 9 cL) 9 VS rfl hLA (wE.heap.size + 1) (some ⟨wE.heap.size, 0, none⟩) 2 2 [.slice Aa 2 ca, .slice Ab 2 cb] rfl hrdA (by simp [Value.oneCell']) (by unfold maxLen; omega) (by omega) (by simp; omega) ?_; intro v9 wz hownz hgz hatz; obtain ⟨A9, c9, rfl⟩ := own_slice hownz)
      have hkz := Keep.grown (S := fun x => (Value.slice AL 9 cL).ownBlock = some x) (Keep.refl _ _) hgz (fun k hk _ => hk)
      have hTz := hTA.keepS hkz (fun x hx hS => hVe x hS hx)
      have hHz := hHA.keep hkz (fun v hv x hx hS => by
        obtain ⟨cs, hbk⟩ := own_obj hLA hS
        obtain ⟨nn, xs, _, hrow⟩ := hHA.row v hv
        exact own_ne hrow hbk (by decide) hx)
      have hBz := hBA.grown hgz hBA.size (fun k hk => (hLA.lt k hk).1)
      have eVS : VS ++ [Value.slice Aa 2 ca, .slice Ab 2 cb] = VS ++ [.slice Aa 2 ca] ++ [.slice Ab 2 cb] := by simp
      rw [eVS] at hownz
      obtain ⟨L, rfl⟩ := own_some hownz (by omega)
      obtain ⟨V, nV, X, hLists, hnV, hVm⟩ := hHz.lists hownz
      have hap := apart_any w.heap.size L 11 c9 V nV X wz hLists (hownz.lt L rfl).2 (by omega) hnV (own_cap hownz) hBz.size
      clear hLA hTA hHA hBA hrdA hkz hatz hgz eVS hc1 hc2'
      go_wp2_with fail
      refine hap.mono ?_
      rintro e wq ⟨rfl, hkq⟩
      have hTq := hTz.keepS hkq (fun x hx hS => by
        obtain ⟨j, hj, hxj⟩ := hS
        exact hVb _ (hVm j hj) x hxj hx)
      have hBq := hBz.trans (hkq.below hBz.size (fun x hS => by
        obtain ⟨j, hj, hxj⟩ := hS
        exact ((hLists.row j hj).lt x hxj).1))
      clear hap hTz hHz hBz hownz hLists hkq
      have hsq := hseeF hTq
      go_wp2_with fail
      refine hsq.mono ?_
      rintro e wr2 ⟨xr, rfl, hownr, hbr⟩
      obtain ⟨Ar, cr, rfl⟩ := own_slice hownr
      have hbN := (Below.refl wr2.heap.size wr2).alloc (Nat.le_refl _) (.cells #[.int .i64 st, .int .u32 ses, .int .u32 num, .int .u32 snt, .int .i64 snc, .int .i64 lat, .bool req, .bool true, .slice Ar 2 cr] 57)
      have hN := Blk.new wr2 57 #[.int .i64 st, .int .u32 ses, .int .u32 num, .int .u32 snt, .int .i64 snc, .int .i64 lat, .bool req, .bool true, .slice Ar 2 cr]
      have hTr := (hTq.below hbr).below hbN
      have hqlt := hTq.lt
      have hgr := hownr.lt
      have hzr := hbr.size
      have hownN := own_below hownr hbN
      have hBr2 := (hBq.trans (hbr.mono hBq.size)).trans (hbN.mono (by have := hBq.size; omega))
      have hTN : ¬ T wr2.heap.size := fun h => by have := hqlt _ h; omega
      clear hsq hTq hBq hbr hownr hbN hseeF
      go_upto_region 28 with fail
      obtain ⟨gN, HgN⟩ : ∃ x, Hid (x = wr2.heap.size) := ⟨_, Lib.hid rfl⟩
      rw [← HgN.out] at hN hTN ⊢
      generalize wr2.alloc (.cells #[.int .i64 st, .int .u32 ses, .int .u32 num, .int .u32 snt, .int .i64 snc, .int .i64 lat, .bool req, .bool true, .slice Ar 2 cr] 57) = wN at *
      have hrM := hr2.below hBr2
      have hfr := hfrF hTr hrM hBr2.size
      clear hfrF hrM
      go_wp2_with fail
      refine hfr.mono ?_
      rintro e wM ⟨vM, rfl, _, hvM, hbM⟩
      have hownM := hvM ff rfl
      obtain ⟨AM, cM, rfl⟩ := own_slice hownM
      have hTM := hTr.below hbM
      have hNM := hN.below hbM hN.lt
      have hownNM := own_below hownN hbM
      have hBM := hBr2.trans (hbM.mono hBr2.size)
      have hMlt := hTM.lt
      have hgM := hownM.lt
      have hTrl := hTr.lt
      have hsend := two_receiveD hTM hln ff.length ff AM cM wM.heap.size (Reads.of_own hownM) (Nat.le_refl _) (own_cap hownM) hfl
      have hhm := fun {W : World} {T' : Nat → Prop} (h : HalfD w1.heap.size W a ma b mb (m4.receive ff).1 m4 T T') (hr : Reads W W.heap.size 1 AM ff.length (u8c ff)) => half_receiveD ff.length ff h hln AM cM W.heap.size hr (Nat.le_refl _) (own_cap hownM)
      generalize m4.receive ff = qq at *
      obtain ⟨q1, q2, q3⟩ := qq
      simp only at hsend hhm
      clear hfr hTr hN hownN hBr2 hvM hbM hTM
      go_wp2_with fail
      refine hsend.mono ?_
      rintro e wx ⟨xx, Tx, rfl, hownx, hhx, hsx, _, hkx, hbx⟩
      obtain ⟨Ax, cx, rfl⟩ := own_slice hownx
      have hNx := hNM.keep hkx hTN
      have hownNx := ownsRow_keep hownNM hkx (fun x hx h => by have h1 := hqlt _ h; have h2 := (hgr x hx).1; omega)
      have hownMx := ownsRow_keep hownM hkx (fun x hx h => by have h1 := hTrl _ h; have h2 := (hgM x hx).1; omega)
      have hBx := hBM.trans (hbx.mono hz1)
      have hrs := hhm hhx (Reads.of_own hownMx)
      clear hsend hhm hNM hownNM hBM hkx hbx hhx
      go_wp2_with fail
      refine hrs.mono ?_
      rintro e wy ⟨xy, Ty, rfl, howny, hTy, _, _, hky, hby⟩
      obtain ⟨Ay, cy, rfl⟩ := own_slice howny
      have hNy := hNx.keep hky hTN
      have hownNy := ownsRow_keep hownNx hky (fun x hx h => by have h1 := hqlt _ h; have h2 := (hgr x hx).1; omega)
      have hownxy := ownsRow_keep hownx hky (fun x hx h => by have h1 := hMlt _ h; have h2 := (hownx.lt x hx).1; omega)
      have hBy := hBx.trans (hby.mono hz1)
      have hr2y := hr2.below hBy
      have hcv1 := conv_reads (c := cr) (Reads.of_own hownNy)
      have hcv2 := conv_reads (c := c2) hr2y
      have hcv3 := conv_reads (c := cx) (Reads.of_own hownxy)
      have hcv4 := conv_reads (c := cy) (Reads.of_own howny)
      have hcN := hNy.cell
      clear hrs hky hby hTy hownNy hownxy howny hNx hownNx hownx hNy hr2y
      go_wp2_with fail
      go_ret
      exact ⟨rfl, hBy⟩
end Go.Proofs.YtlldgfejcjnpkaaGreat
