/- The base of the laws, part 31: contracts and plain lemmas, no statement. -/
import Derived.Test.YtlldgfejcjnpkaaGreatBase20
import Derived.Test.YtlldgfejcjnpkaaGreatBase28
import Derived.Test.YtlldgfejcjnpkaaGreatBase30
import Derived.Deep.RegionHeld3
import Derived.Deep.RegionHeld
set_option linter.unusedVariables false
/- The device's law's step (parapetlaw13.step): one call, on both. -/
namespace Go.Proofs.YtlldgfejcjnpkaaGreat
open Go.RowKit
set_option maxHeartbeats 10000000
set_option maxRecDepth 100000

theorem stepDS34 {w : World} {o0 : Nat} {x1 x3 x4 : Value} {x0 x2 x5 x6 : Value} (h : Blk w o0 50 #[x0, x1, x2, x3, x4, x5, x6]) :
    w.cell? ⟨o0, 3, none⟩ = some x3 ∧ w.cell? ⟨o0, 4, none⟩ = some x4 := ⟨(h.cell 3).trans rfl, (h.cell 4).trans rfl⟩
theorem frameD_len {m : DevM} {o : OpM} {f : List UInt8} (h : frameD m o = some f) (hod : o.data.length ≤ 140737488351232) : f.length ≤ 140737488351232 := by
  unfold frameD at h
  split at h
  · injection h with h
    subst h
    exact hod
  split at h
  · injection h with h
    subst h
    have := encode_small (unitOpD m o)
    omega
  split at h
  · injection h with h
    subst h
    have := encode_small (unitOpD m o)
    cases hb : burstM (unitOpD m o).encode o.at_ o.word with
    | none => simp only [Option.getD_none]; omega
    | some x => have := burst_length hb; simp only [Option.getD_some]; omega
  · cases h
/-- A device behind one call, by its frame. -/
def stepDBy (m : DevM) (o : OpM) : Option (List UInt8) → DevM
  | some b => (m.receive b).1
  | none => if o.kind = 8 then (m.tick o.n).1 else if o.kind = 9 then (m.write o.data o.odd).1 else if o.kind = 10 then m.ack.1 else if o.kind = 11 then (m.reset o.n).1 else if o.kind = 12 then { m with m := (m.m.arm o.n).1 } else m
theorem stepD_by (m : DevM) (o : OpM) : stepD m o = stepDBy m o (frameD m o) := rfl
theorem armS {w : World} {b o0 mb cb : Nat} {m : DevM} {lg vv val : Value} {x0 x1 x2 x3 x4 x5 x6 : Value} (h : Blk w b 95 (rdCells m mb cb lg vv val)) (hO : Blk w o0 50 #[x0, x1, x2, x3, x4, x5, x6]) :
    w.cell? ⟨b, 5, none⟩ = some (.pointer (some ⟨mb, 0, none⟩)) ∧ w.cell? ⟨o0, 1, none⟩ = some x1 := ⟨(h.cell 5).trans rfl, (hO.cell 1).trans rfl⟩
theorem l13step_any (B a ma b mb : Nat) (m : DevM) (F1 F2 : Nat → Prop) (o : OpM) (A : Option Addr) (c : Nat) (w : World) (hP : PairD B w a ma b mb m m F1 F2) (hi : m.Inv) (hlen : m.log.length < 1073741600) (ho : o.Ok) (hr : Reads w w.heap.size 1 A o.data.length (u8c o.data)) (hdj : 0 < o.data.length → ∀ ad, A = some ad → ¬ F1 ad.block ∧ ¬ F2 ad.block) (hoc : o.data.length ≤ c) (hod : o.data.length ≤ 140737488351232) :
    Calls Tryz.prog 24 #[.pointer (some ⟨a, 0, none⟩), .pointer (some ⟨ma, 0, none⟩), .pointer (some ⟨b, 0, none⟩), opVal o (.slice A o.data.length c)] w fun e w' => e = .returned (.bool true) ∧ ∃ F1' F2', RunD B w F1 F2 w' a ma b mb (stepD m o) (stepD m o) F1' F2' := by
  obtain ⟨kind, on_, flags, odd, data, at_, word⟩ := o
  simp only at *
  have hB := hP.dev.Ble
  have hon := ho.n
  simp only at hon
  have hbO := (Below.refl w.heap.size w).alloc (Nat.le_refl _) (.cells #[.int .i64 kind, .int .i64 on_, .int .i64 flags, .bool odd, .slice A data.length c, .int .i64 at_, .int .u32 word] 50)
  have hO := Blk.new w 50 #[.int .i64 kind, .int .i64 on_, .int .i64 flags, .bool odd, .slice A data.length c, .int .i64 at_, .int .u32 word]
  have hP1 := (RunD.start hP).below hbO
  have hr1 := hr.below hbO
  have hs1 := hbO.size
  have hfr := l13Frame_any B b mb m F2 ⟨kind, on_, flags, odd, data, at_, word⟩ A c w.heap.size _ hP1.pair.ref hi ho hr1 (by omega) hoc hod
  obtain ⟨q, Hq⟩ : ∃ q, Hid (q = stepD m ⟨kind, on_, flags, odd, data, at_, word⟩) := ⟨_, Lib.hid rfl⟩
  rw [← Hq.out]
  unfold opVal at *
  simp only at hfr
  go_enter Tryz.func24, Tryz.ntmps24
  go_upto_region 1 with fail
  obtain ⟨o0, Ho0⟩ : ∃ e, Hid (e = w.heap.size) := ⟨_, Lib.hid rfl⟩
  rw [← Ho0.out] at hO ⊢
  generalize w.alloc (.cells _ 50) = W1 at *
  have hoc1 := hO.cell
  obtain ⟨r, Hr⟩ : ∃ r, Hid (r = frameD m ⟨kind, on_, flags, odd, data, at_, word⟩) := ⟨_, Lib.hid rfl⟩
  rw [← Hr.out] at hfr
  have hstep : q = stepDBy m ⟨kind, on_, flags, odd, data, at_, word⟩ r := by rw [Hq.out, Hr.out]; rfl
  have Hst := Lib.hid hstep
  clear hstep Hq
  go_wp2_with fail
  refine hfr.mono ?_
  rintro e W2 ⟨v2, rfl, hn2, hs2, hb2⟩
  have hP2 := hP1.below hb2
  have hO2 := hO.below hb2 hO.lt
  have hbO2 := hbO.trans (hb2.mono hs1)
  have hr2 := hr1.below (hb2.mono hs1)
  clear hoc1 hfr hP1 hr1
  cases r with
  | some f =>
    have hown2 := hs2 f rfl
    have hf := frameD_len Hr.out.symm hod
    have hq : q = (m.receive f).1 := Hst.out
    subst hq
    clear Hst hn2 hs2
    obtain ⟨A2, c2, rfl⟩ := own_slice hown2
    obtain ⟨i0, hi0, hz0, hz1, hz2⟩ := info_parts byte_info
    go_wp2_with (at_builtin; refine wpList_append_any _ rfl (.tmp 24) (.tmp 25) _ rfl W2.heap.size 5 i0 _ 1 1 Tryz.underlying22 hi0 hz0 hz1 hz2 rfl (by omega) (.slice (some ⟨W2.heap.size, 0, none⟩) 0 0) 0 [] rfl (World.ownsRow_made W2 #[] 0 (Nat.le_refl _) (by unfold maxLen; omega) rfl) W2.heap.size A2 f.length c2 (u8c f) rfl ((Reads.of_own hown2).alloc (Nat.le_refl _) _) (u8c_one f) (by unfold maxLen; omega) (by omega) (by simp) ?_; intro v3 W3 hown3 hg3 hat3; rw [Nat.zero_add, List.nil_append] at hown3; obtain ⟨A3, c3, rfl⟩ := own_slice hown3)
    have hb3 := ((Below.refl W2.heap.size W2).alloc (Nat.le_refl _) (.cells #[] 5)).grown hg3 (by simp) (fun k hk => by simp [Value.ownBlock] at hk; omega)
    have hP3 := hP2.below hb3
    have hr3 := (Reads.of_own hown2).below hb3
    clear hg3 hat3
    refine (devReceive_any B a ma m F1 A3 f.length c3 W3.heap.size f W3 hP3.pair.dev hi (by omega) (Reads.of_own hown3) (Nat.le_refl _) (own_cap hown3) (by omega)).mono ?_
    rintro e W4 ⟨x4, rfl, hown4, t4⟩
    obtain ⟨A4, c4, rfl⟩ := own_slice hown4
    have hP4 := hP3.onDev t4.too
    have hlt2 := hown2.lt
    have hr4 := hr3.keepS t4.too.keep hb3.size (fun ad e hx => by subst e; have h1 := (hlt2 ad.block rfl).1; have h2 := (hP.dev.lo ad.block hx).2; omega)
    have hB2 := hbO2.size
    have hB3 := hb3.size
    have hB4 := t4.too.keep.size
    go_wp2_with fail
    refine (rdReceive_any B b mb m F2 A2 f.length c2 W2.heap.size f W4 hP4.pair.ref hi (by omega) hr4 (by omega) (own_cap hown2)).mono ?_
    rintro e W5 ⟨x5, rfl, hown5, t5⟩
    obtain ⟨A5, c5, rfl⟩ := own_slice hown5
    have hP5 := hP4.onRef t5.too
    have hr44 := (Reads.of_own hown4).keepS t5.too.keep (Nat.le_refl _) (fun ad e hx => by subst e; have h1 := (hown4.lt ad.block rfl).1; have h2 := (hP.ref.lo ad.block hx).2; omega)
    have hcv4 := conv_reads (c := c4) hr44
    have hcv5 := conv_reads (c := c5) (Reads.of_own hown5)
    clear t4 t5 hr44
    generalize (m.receive f).2.1 = fr at *
    generalize (m.receive f).2.2 = er at *
    go_wp2_with fail
    go_ret
    exact ⟨rfl, _, _, hP5⟩
  | none =>
    have hv2 := hn2 rfl
    subst hv2
    have hq : q = if kind = 8 then (m.tick on_).1 else if kind = 9 then (m.write data odd).1 else if kind = 10 then m.ack.1 else if kind = 11 then (m.reset on_).1 else if kind = 12 then { m with m := (m.m.arm on_).1 } else m := Hst.out
    clear Hst hn2 hs2 Hr
    have ho1 : ∀ x, F1 x → x ≠ o0 := fun x hx e => by have h1 := (hP.dev.lo x hx).2; have h2 := Ho0.out; omega
    have ho2 : ∀ x, F2 x → x ≠ o0 := fun x hx e => by have h1 := (hP.ref.lo x hx).2; have h2 := Ho0.out; omega
    have hB2 := hbO2.size
    have hBW : B ≤ W2.heap.size := by omega
    have hoc2 := hO2.cell
    by_cases k8 : kind = 8
    · subst k8
      rw [if_pos rfl] at hq
      subst hq
      go_upto_region 8 with fail
      clear hoc2
      replace hO2 := hO2.drew
      replace hP2 := hP2.below (Below.refl W2.heap.size W2).drew
      go_wp2_with fail
      go_region_held (fun w' => w'.cell? ⟨o0, 1, none⟩ = some (.int .i64 on_)) (exact (hO2.cell 1).trans rfl) (first
        | (go_at_call 33; refine (devTick_any B a ma m F1 on_ _ hP2.pair.dev hi (by omega)).mono ?_; rintro e W3 ⟨rfl, t3⟩; replace hO2 := hO2.keep t3.keep (fun h => ho1 _ h rfl); replace hP2 := hP2.onDev t3; clear t3)
        | (go_at_call 34; refine (rdTick_any B b mb m F2 on_ _ hP2.pair.ref hi (by omega)).mono ?_; rintro e W4 ⟨rfl, t4⟩; replace hO2 := hO2.keep t4.keep (fun h => ho2 _ h rfl); replace hP2 := hP2.onRef t4; clear t4))
      go_wp2_with fail
      go_ret
      exact ⟨rfl, _, _, hP2⟩
    have g8 : (kind == 8) = false := by simpa using k8
    rw [if_neg k8] at hq
    by_cases k9 : kind = 9
    · subst k9
      rw [if_pos rfl] at hq
      subst hq
      obtain ⟨i0, hi0, hz0, hz1, hz2⟩ := info_parts byte_info
      go_upto_region 10 with fail
      clear hoc2
      go_wp2_with fail
      go_region_held3 (fun w' => w'.cell? ⟨o0, 3, none⟩ = some (.bool odd) ∧ w'.cell? ⟨o0, 4, none⟩ = some (.slice A data.length c)) (with_reducible (first | exact stepDS34 hO2 | exact stepDS34 (hO2.alloc _) | exact stepDS34 hO2.drew | exact stepDS34 (hO2.alloc _).drew)) (first
        | (refine step_append_any _ rfl (.tmp 62) (.tmp 64) _ rfl W2.heap.size 5 i0 _ 1 1 Tryz.underlying22 hi0 hz0 hz1 hz2 rfl (by omega) (.slice (some ⟨W2.heap.size, 0, none⟩) 0 0) 0 [] rfl (World.ownsRow_made W2 #[] 0 (Nat.le_refl _) (by unfold maxLen; omega) rfl).drew w.heap.size A data.length c (u8c data) rfl (hr2.alloc hB2 _).drew (u8c_one data) (by unfold maxLen; omega) (by omega) (by simp) ?_; intro v3 W3 hown3 hg3 hat3; rw [Nat.zero_add, List.nil_append] at hown3; obtain ⟨A3, c3, rfl⟩ := own_slice hown3; have hb3 := ((Below.refl W2.heap.size W2).alloc (Nat.le_refl _) (.cells #[] 5)).drew.grown hg3 (by simp) (fun k hk => by simp [Value.ownBlock] at hk; omega); replace hO2 := hO2.below hb3 hO2.lt; replace hP2 := hP2.below hb3; replace hr2 := hr2.below (hb3.mono hB2); replace hB2 := Nat.le_trans hB2 hb3.size)
        | (go_at_call 16; refine (devWrite_any B a ma m F1 A3 data.length c3 W3.heap.size data odd _ hP2.pair.dev hi (Reads.of_own hown3) (Nat.le_refl _) (fun e => reads_nn (Reads.of_own hown3) e)).mono ?_; rintro e W4 ⟨rfl, t4⟩; replace hO2 := hO2.keep t4.keep (fun h => ho1 _ h rfl); replace hr2 := hr2.keepP t4.keep hB2 (fun h ad e => (hdj h ad e).1); replace hB2 := Nat.le_trans hB2 t4.keep.size; replace hP2 := hP2.onDev t4; clear t4)
        | (go_at_call 17; refine (rdWrite_any B b mb m F2 A data.length c w.heap.size data odd _ hP2.pair.ref hr2 hB2 hi).mono ?_; rintro e W5 ⟨rfl, t5⟩; replace hO2 := hO2.keep t5.keep (fun h => ho2 _ h rfl); replace hP2 := hP2.onRef t5; clear t5))
      go_wp2_with fail
      go_ret
      exact ⟨rfl, _, _, hP2⟩
    have g9 : (kind == 9) = false := by simpa using k9
    rw [if_neg k9] at hq
    by_cases k10 : kind = 10
    · subst k10
      rw [if_pos rfl] at hq
      subst hq
      clear k8 k9 g8 g9
      go_wp2_with fail
      refine (devAck_any B a ma m F1 _ hP2.pair.dev).mono ?_
      rintro e W3 ⟨rfl, t3⟩
      replace hP2 := hP2.onDev t3
      go_wp2_with fail
      refine (rdAck_any B b mb m F2 _ hP2.pair.ref).mono ?_
      rintro e W4 ⟨rfl, t4⟩
      replace hP2 := hP2.onRef t4
      go_wp2_with fail
      go_ret
      exact ⟨rfl, _, _, hP2⟩
    have g10 : (kind == 10) = false := by simpa using k10
    rw [if_neg k10] at hq
    by_cases k11 : kind = 11
    · subst k11
      rw [if_pos rfl] at hq
      subst hq
      clear k8 k9 k10 g8 g9 g10
      go_upto_region 14 with fail
      clear hoc2
      replace hO2 := hO2.drew
      replace hP2 := hP2.below (Below.refl W2.heap.size W2).drew
      go_wp2_with fail
      go_region_held (fun w' => w'.cell? ⟨o0, 1, none⟩ = some (.int .i64 on_)) (exact (hO2.cell 1).trans rfl) (first
        | (go_at_call 67; refine (devReset_any B a ma m F1 on_ _ hP2.pair.dev hi hon.2).mono ?_; rintro e W3 ⟨rfl, t3⟩; replace hO2 := hO2.keep t3.keep (fun h => ho1 _ h rfl); replace hP2 := hP2.onDev t3; clear t3)
        | (go_at_call 68; refine (rdReset_any B b mb m F2 on_ _ hP2.pair.ref hi hon.2).mono ?_; rintro e W4 ⟨rfl, t4⟩; replace hO2 := hO2.keep t4.keep (fun h => ho2 _ h rfl); replace hP2 := hP2.onRef t4; clear t4))
      go_wp2_with fail
      go_ret
      exact ⟨rfl, _, _, hP2⟩
    have g11 : (kind == 11) = false := by simpa using k11
    rw [if_neg k11] at hq
    by_cases k12 : kind = 12
    · subst k12
      rw [if_pos rfl] at hq
      subst hq
      clear k8 k9 k10 k11 g8 g9 g10 g11
      go_upto_region 16 with fail
      clear hoc2
      replace hO2 := hO2.drew
      replace hP2 := hP2.below (Below.refl W2.heap.size W2).drew
      obtain ⟨⟨κ, A6, c6, vv6, val6, cb6, hR, hFR⟩, hloR⟩ := id hP2.pair.ref
      have hbR := hR.blk
      have hbF : F2 b := hP2.pair.ref.Fb
      clear hR
      go_wp2_with fail
      go_region_held (fun w' => w'.cell? ⟨b, 5, none⟩ = some (.pointer (some ⟨mb, 0, none⟩)) ∧ w'.cell? ⟨o0, 1, none⟩ = some (.int .i64 on_)) (with_reducible (exact armS hbR hO2)) (first
        | (go_at_call 69; refine (devArmTo_any B a ma m F1 on_ _ hP2.pair.dev hon.2).mono ?_; rintro e W3 ⟨rfl, t3⟩; replace hO2 := hO2.keep t3.keep (fun h => ho1 _ h rfl); replace hbR := hbR.keep t3.keep (fun h => hP2.pair.dj _ h hbF); replace hP2 := hP2.onDev t3; clear t3)
        | (go_at_call 70; refine (rdArm_any B b mb m F2 on_ _ hP2.pair.ref hon.2).mono ?_; rintro e W4 ⟨rfl, t4⟩; replace hO2 := hO2.keep t4.keep (fun h => ho2 _ h rfl); replace hP2 := hP2.onRef t4; obtain ⟨⟨κ', A7, c7, vv7, val7, cb7, hR, hFR'⟩, hloR'⟩ := id hP2.pair.ref; clear hbR; have hbR := hR.blk; clear t4 hR))
      go_wp2_with fail
      go_ret
      exact ⟨rfl, _, _, hP2⟩
    have g12 : (kind == 12) = false := by simpa using k12
    rw [if_neg k12] at hq
    subst hq
    clear k8 k9 k10 k11 k12
    go_wp2_with fail
    go_ret
    exact ⟨rfl, _, _, hP2⟩
end Go.Proofs.YtlldgfejcjnpkaaGreat
