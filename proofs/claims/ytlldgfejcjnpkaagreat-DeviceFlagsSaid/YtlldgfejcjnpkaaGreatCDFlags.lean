/- The walk of DeviceFlags. -/
import Derived.Test.YtlldgfejcjnpkaaGreatBase34
import Derived.Test.YtlldgfejcjnpkaaGreatCDFlagS
import Derived.Deep.RegionHeld3
import Derived.Deep.RegionHeld
set_option linter.unusedVariables false
namespace Go.Proofs.YtlldgfejcjnpkaaGreat
open Go.RowKit
set_option maxHeartbeats 10000000
set_option maxRecDepth 100000

theorem flagO {w : World} {o0 : Nat} {x0 x1 x2 x3 x4 x5 x6 : Value} (h : Blk w o0 50 #[x0, x1, x2, x3, x4, x5, x6]) :
    w.cell? ⟨o0, 0, none⟩ = some x0 ∧ w.cell? ⟨o0, 1, none⟩ = some x1 ∧ w.cell? ⟨o0, 3, none⟩ = some x3 ∧ w.cell? ⟨o0, 4, none⟩ = some x4 := ⟨(h.cell 0).trans rfl, (h.cell 1).trans rfl, (h.cell 3).trans rfl, (h.cell 4).trans rfl⟩
theorem see_facts (d : DevM) : d.see.state = d.state ∧ d.see.sent = d.sent ∧ d.see.latched = d.valve.latched ∧ d.see.request = d.valve.request ∧ d.see.on = d.valve.on := ⟨rfl, rfl, rfl, rfl, rfl⟩
theorem deviceFlags_law (A : Option Addr) (n c : Nat) (l : List OpM) (w : World) (hops : OpsAt w w.heap.size A n l) (hn : n ≤ 140737488351232) :
    Calls Tryz.prog 4 #[.slice A n c] w fun e w' => e = .returned (.bool true) ∧ Below w.heap.size w w' := by
  obtain ⟨i0, hi0, hz0, hzz1, hz2⟩ := info_parts byte_info
  go_enter Tryz.func4, Tryz.ntmps4
  go_wp2_with fail
  refine (lawAwakeD_any _).mono ?_
  rintro e w1 ⟨rfl, hb1'⟩
  go_wp2_with fail
  refine (memNew16_any w1).mono ?_
  rintro e w2 ⟨ma, rfl, hM2, hb2⟩
  have hz1 := hb1'.size
  have hb2' := hb1'.trans (hb2.mono hz1)
  go_wp2_with fail
  refine (rmemNew16_any w2).mono ?_
  rintro e w3 ⟨mb, rfl, hM3, hb3⟩
  have hb3' := hb2'.trans (hb3.mono hb2'.size)
  obtain ⟨F1, F2, hMs⟩ := mems_new hM2 hb2 hM3 hb3
  have hz3 : w1.heap.size ≤ w3.heap.size := Nat.le_trans hb2.size hb3.size
  have hq3 := hb2.trans (hb3.mono hb2.size)
  clear hM2 hM3 hb2 hb3 hb2'
  go_wp2_with fail
  refine (lawSmall_any w3).mono ?_
  rintro e w4 ⟨rfl, hb4⟩
  have hMs4 := hMs.below hb4
  have hb4' := hb3'.trans (hb4.mono hb3'.size)
  have hz4 : w1.heap.size ≤ w4.heap.size := Nat.le_trans hz3 hb4.size
  have hq4 := hq3.trans (hb4.mono hz3)
  clear hMs hb4 hb3' hq3
  unfold parVal smallM
  simp only
  go_wp2_with fail
  refine (devFirst_any ma F1 w1.heap.size 50 w4 hMs4.m1 hMs4.lo1 hz4 ⟨by decide, by decide⟩).mono ?_
  rintro e w5 ⟨a, F3, rfl, hI5, hk5, hs5⟩
  obtain ⟨hM5, hlo5, hdj5⟩ := hMs4.dev hk5 hs5
  have hq5 : Below w1.heap.size w1 w5 := hq4.trans (hk5.below hz4 (fun x hx => (hMs4.lo1 x hx).1))
  clear hMs4 hk5 hs5 hq4 hb4'
  go_wp2_with fail
  refine (lawSmall_any w5).mono ?_
  rintro e w6 ⟨rfl, hb6⟩
  have hI6 := hI5.below hb6
  have hM6 := hM5.below hb6
  have hlo6 : ∀ x, F2 x → w1.heap.size ≤ x ∧ x < w6.heap.size := fun x hx => by have := hlo5 x hx; have := hb6.size; omega
  have hz6 : w1.heap.size ≤ w6.heap.size := Nat.le_trans hq5.size hb6.size
  have hq6 := hq5.trans (hb6.mono hq5.size)
  clear hI5 hM5 hlo5 hb6 hq5
  unfold parVal smallM
  simp only
  go_wp2_with fail
  refine (rdFirst_any mb F2 w1.heap.size 50 w6 hM6 hlo6 (by decide)).mono ?_
  rintro e w7 ⟨b, rfl, hR7, hk7⟩
  have hT := two_newD (first_inv 50 ⟨by decide, by decide⟩) hI6 hdj5 hR7 hk7
  have hq7 : Below w1.heap.size w1 w7 := hq6.trans (hk7.below hz6 (fun x hx => (hlo6 x hx).1))
  have hb7' := hb1'.trans (hq7.mono hz1)
  clear hM6 hlo6 hI6 hdj5 hR7 hk7 hq6
  go_wp2_with fail
  go_loopg [11, 12, 13] 300 (fun q v11 v12 v13 wr => ∃ (i : Nat) (m : DevM) (T : Nat → Prop) (V : List UInt8) (H : Bool), v11 = .string ⟨V.toArray⟩ ∧ v12 = .bool H ∧ v13 = .int .i64 i ∧ i + q = 300 ∧ i ≤ n ∧ m.log.length ≤ 4 * i ∧ TwoD w1.heap.size wr a ma b mb m T ∧ Below w1.heap.size w1 wr ∧ AppIs m V H)
  case atStart => exact ⟨0, _, _, [0], false, rfl, rfl, rfl, by omega, by omega, by simp [DevM.first], hT, hq7, app_first 50⟩
  case round =>
    clear hT hb7' hq7
    obtain ⟨i, m, T, V, H, rfl, rfl, rfl, hq, hin, hlg, hT, hQ, hA⟩ := hrel
    have hB := hb1'.trans (hQ.mono hz1)
    by_cases hlt : i < n ∧ i < 300
    · obtain ⟨h1, h2⟩ := hlt
      obtain ⟨ad, o, D, co, rfl, ho, ⟨p0, p1, p2, p3, p4, p5, p6⟩, hok, hrd, hdc, hdl, hadB⟩ := ops_at (hops.below hB) h1
      have Hq := Lib.hid hq
      have Hin := Lib.hid h1
      have Hlg2 := Lib.hid hlg
      have hdB : 0 < o.data.length → ∀ ad, D = some ad → ad.block < w1.heap.size := fun hn ad e => by obtain ⟨ad', e', hb', _⟩ := hrd.2 hn; rw [e] at e'; injection e' with e'; subst e'; have := hb1'.size; omega
      have hl8 := stepD_log m o
      have hoth := app_other hA o
      have hfr := fun {W : World} {T : Nat → Prop} (h : TwoD w1.heap.size W a ma b mb m T) (hr : Reads W w.heap.size 1 D o.data.length (u8c o.data)) (hz : w.heap.size ≤ W.heap.size) => two_frameD h o D co w.heap.size hok hr hz hdc hdl
      have hst := fun {W : World} {T : Nat → Prop} (h : TwoD w1.heap.size W a ma b mb m T) (hr : Reads W w.heap.size 1 D o.data.length (u8c o.data)) (hz : w.heap.size ≤ W.heap.size) => two_stepD h (by omega) o D co hok (hr.more hz) (fun hn ad e => .inl (hdB hn ad e)) hdc hdl
      obtain ⟨r, Hr⟩ : ∃ r, Hid (r = frameD m o) := ⟨_, Lib.hid rfl⟩
      have hfl : ∀ f, r = some f → f.length ≤ 140737488351232 := fun f e => frameD_len (Hr.out.symm.trans e) hdl
      rw [← Hr.out] at hfr hoth
      obtain ⟨S, HS⟩ : ∃ S, Hid (S = stepD m o) := ⟨_, Lib.hid rfl⟩
      rw [← HS.out] at hst hoth hl8
      obtain ⟨okind, on_, oflags, oodd, odata, oat, oword⟩ := o
      unfold opVal at hst hfr
      simp only at *
      have hbO := (Below.refl wr.heap.size wr).alloc (Nat.le_refl _) (.cells #[.int .i64 okind, .int .i64 on_, .int .i64 oflags, .bool oodd, .slice D odata.length co, .int .i64 oat, .int .u32 oword] 50)
      have hO := Blk.new wr 50 #[.int .i64 okind, .int .i64 on_, .int .i64 oflags, .bool oodd, .slice D odata.length co, .int .i64 oat, .int .u32 oword]
      have hltT := hT.lt
      have hTO := hT.below hbO
      have hQO := hQ.trans (hbO.mono hT.Ble)
      have hBO := hB.trans (hbO.mono hB.size)
      have hrO := hrd.below (hbO.mono hB.size)
      clear hq hin hlg ho hok hdc hdl hB hT hQ hrd hdB
      go_upto_region 14 with fail
      obtain ⟨o0, Ho0⟩ : ∃ e, Hid (e = wr.heap.size) := ⟨_, Lib.hid rfl⟩
      have hTo : ¬ T o0 := fun h => by have h1 := hltT _ h; have h3 := Ho0.out; omega
      rw [← Ho0.out] at hO ⊢
      generalize wr.alloc (.cells _ 50) = wO at *
      have hltO := hTO.lt
      have hcO := hO.cell
      clear hbO hltT p0 p1 p2 p3 p4 p5 p6
      go_wp2_with fail
      refine (hfr hTO hrO hBO.size).mono ?_
      rintro e w8 ⟨v8, rfl, hn8, hs8, hb8⟩
      have hT8 := hTO.below hb8
      have hQ8 := hQO.trans (hb8.mono hTO.Ble)
      have hB8 := hBO.trans (hb8.mono hBO.size)
      have hr8 := hrO.below (hb8.mono hBO.size)
      have hO8 := hO.below hb8 hO.lt
      clear hcO hfr hO hrO hBO hQO
      cases r with
      | none =>
        have hv8 := hn8 rfl
        subst hv8
        have hoa := hoth rfl
        clear hoth
        have hsee := two_seeD hT8
        clear hn8 hs8 hTO hfl
        simp only [Option.isSome_none]
        go_wp2_with fail
        refine hsee.mono ?_
        rintro e w9 ⟨x9, rfl, hown9, hb9⟩
        have hT9 := hT8.below hb9
        have hQ9 := hQ8.trans (hb9.mono hT8.Ble)
        have hB9 := hB8.trans (hb9.mono hB8.size)
        have hr9 := hr8.below (hb9.mono hB8.size)
        have hO9 := hO8.below hb9 hO8.lt
        have hcO := hO9.cell
        have hse := (see_facts m).1
        unfold endVal
        rw [hse]
        have hfl0 := end_state
        clear hsee hT8 hQ8 hB8 hr8 hO8 hown9
        go_wp2_with fail
        refine (hst hT9 hr9 hB9.size).mono ?_
        rintro e w10 ⟨rfl, hT10, hk10, hb10⟩
        have hQ10 := hQ9.trans hb10
        have hB10 := hb1'.trans (hQ10.mono hz1)
        have hO10 := hO9.keep hk10 hTo
        have hr10 : Reads w10 w.heap.size 1 D odata.length (u8c odata) := hr9.below (hb10.mono hz1)
        have hcO := hO10.cell
        clear hst hT9 hQ9 hB9 hr9 hO9 hfl0 hk10 hb10
        by_cases k9 : okind = 9
        · subst k9
          have c11 : ¬ ((9 : Int) = 11 ∧ 0 ≤ on_) := fun x => by omega
          rw [if_neg c11, if_neg c11] at hoa
          by_cases hl1 : odata.length = 1
          · have gl : ((odata.length : Int) == 1) = true := by simp [hl1]
            by_cases h6 : m.state = 6
            · have c9 : ¬ ((9 : Int) = 9 ∧ odata.length = 1 ∧ m.state ≠ 6) := fun x => x.2.2 h6
              rw [if_neg c9, if_neg c9] at hoa
              have g6 : (m.state != 6) = false := by simp [h6]
              clear c9 c11 h6 hl1
              go_wp2_with fail
              go_roundg (300 - (i + 1))
              case measure => have := Hq.out; omega
              case rel =>
                have h1 := Hq.out
                have h2 := Hin.out
                have h3 := Hlg2.out
                exact ⟨i + 1, _, _, _, _, rfl, rfl, by go_num, by omega, by omega, by omega, hT10, hQ10, hoa⟩
            · have c9 : (9 : Int) = 9 ∧ odata.length = 1 ∧ m.state ≠ 6 := ⟨rfl, hl1, h6⟩
              rw [if_pos c9, if_pos c9] at hoa
              have g6 : (m.state != 6) = true := by simp [h6]
              clear c9 c11 h6 hl1
              go_upto_region 20 with fail
              clear hcO
              replace hO10 := hO10.drew
              replace hr10 := hr10.drew
              replace hT10 := hT10.below (Below.refl w10.heap.size w10).drew
              replace hQ10 := hQ10.drew
              go_wp2_with fail
              go_region_held (fun w' => (w'.cell? ⟨o0, 3, none⟩ = some (.bool oodd) ∧ w'.cell? ⟨o0, 4, none⟩ = some (.slice D odata.length co)) ∧ (convert 22 9 (.slice D odata.length co)).run Tryz.prog w' = .ok (.string ⟨odata.toArray⟩) w') (exact ⟨⟨(hO10.cell 3).trans rfl, (hO10.cell 4).trans rfl⟩, conv_reads hr10⟩) (fail)
              have hcO := hO10.cell
              go_wp2_with fail
              go_roundg (300 - (i + 1))
              case measure => have := Hq.out; omega
              case rel =>
                have h1 := Hq.out
                have h2 := Hin.out
                have h3 := Hlg2.out
                exact ⟨i + 1, _, _, _, _, rfl, rfl, by go_num, by omega, by omega, by omega, hT10, hQ10, hoa⟩
          · have gl : ((odata.length : Int) == 1) = false := by simp; omega
            have c9 : ¬ ((9 : Int) = 9 ∧ odata.length = 1 ∧ m.state ≠ 6) := fun x => hl1 x.2.1
            rw [if_neg c9, if_neg c9] at hoa
            clear c9 c11 hl1
            go_wp2_with fail
            go_roundg (300 - (i + 1))
            case measure => have := Hq.out; omega
            case rel =>
              have h1 := Hq.out
              have h2 := Hin.out
              have h3 := Hlg2.out
              exact ⟨i + 1, _, _, _, _, rfl, rfl, by go_num, by omega, by omega, by omega, hT10, hQ10, hoa⟩
        have g9 : (okind == 9) = false := by simpa using k9
        have c9 : ¬ (okind = 9 ∧ odata.length = 1 ∧ m.state ≠ 6) := fun x => k9 x.1
        by_cases k11 : okind = 11
        · subst k11
          by_cases hn0 : 0 ≤ on_
          · have c11 : (11 : Int) = 11 ∧ 0 ≤ on_ := ⟨rfl, hn0⟩
            rw [if_pos c11, if_pos c11] at hoa
            clear c9 c11 k9
            go_wp2_with fail
            go_roundg (300 - (i + 1))
            case measure => have := Hq.out; omega
            case rel =>
              have h1 := Hq.out
              have h2 := Hin.out
              have h3 := Hlg2.out
              exact ⟨i + 1, _, _, _, _, rfl, rfl, by go_num, by omega, by omega, by omega, hT10, hQ10, hoa⟩
          · have c11 : ¬ ((11 : Int) = 11 ∧ 0 ≤ on_) := fun x => hn0 x.2
            rw [if_neg c11, if_neg c11, if_neg c9, if_neg c9] at hoa
            clear c9 c11 k9
            go_wp2_with fail
            go_roundg (300 - (i + 1))
            case measure => have := Hq.out; omega
            case rel =>
              have h1 := Hq.out
              have h2 := Hin.out
              have h3 := Hlg2.out
              exact ⟨i + 1, _, _, _, _, rfl, rfl, by go_num, by omega, by omega, by omega, hT10, hQ10, hoa⟩
        have g11 : (okind == 11) = false := by simpa using k11
        have c11 : ¬ (okind = 11 ∧ 0 ≤ on_) := fun x => k11 x.1
        rw [if_neg c11, if_neg c11, if_neg c9, if_neg c9] at hoa
        clear c9 c11 k9 k11
        go_wp2_with fail
        go_roundg (300 - (i + 1))
        case measure => have := Hq.out; omega
        case rel =>
          have h1 := Hq.out
          have h2 := Hin.out
          have h3 := Hlg2.out
          exact ⟨i + 1, _, _, _, _, rfl, rfl, by go_num, by omega, by omega, by omega, hT10, hQ10, hoa⟩
      | some f =>
        have hown8 := hs8 f rfl
        obtain ⟨A8, c8, rfl⟩ := own_slice hown8
        have hfl2 := hfl f rfl
        have hstep : S = (m.receive f).1 := by rw [HS.out, stepD_by, ← Hr.out]; rfl
        obtain ⟨hap, hdat⟩ := app_frame hA hT8.inv f
        have hr8f := Reads.of_own hown8
        have hg8 := hown8.lt
        have hlgm : m.log.length ≤ 1200 := by have h1 := Hlg2.out; have h2 := Hin.out; have h3 := Hq.out; omega
        rw [hstep] at hl8
        clear hn8 hs8 hst hoth hr8 hTO hO8 hB8 hfl hstep
        simp only [Option.isSome_some]
        go_wp2_with (at_builtin; refine wpList_append_any _ rfl (.tmp 110) (.tmp 111) _ rfl w8.heap.size 5 i0 _ 1 1 Tryz.underlying22 hi0 hz0 hzz1 hz2 rfl (by omega) (.slice (some ⟨w8.heap.size, 0, none⟩) 0 0) 0 [] rfl (World.ownsRow_made w8 #[] 0 (Nat.le_refl _) (by unfold maxLen; omega) rfl) w8.heap.size A8 f.length c8 (u8c f) rfl (hr8f.alloc (Nat.le_refl _) _) (u8c_one f) (by unfold maxLen; omega) (by omega) (by simp) ?_; intro v9 w9 hown9 hg9 hat9; rw [Nat.zero_add, List.nil_append] at hown9; obtain ⟨A9, c9, rfl⟩ := own_slice hown9)
        have hb9 := ((Below.refl w8.heap.size w8).alloc (Nat.le_refl _) (.cells #[] 5)).grown hg9 (by simp) (fun k hk => by simp [Value.ownBlock] at hk; omega)
        have hz9 : wO.heap.size ≤ w9.heap.size := by have h1 := hb8.size; have h2 := hb9.size; omega
        have hT9 := hT8.below hb9
        have hQ9 := hQ8.trans (hb9.mono hT8.Ble)
        have hown89 := own_below hown8 hb9
        have hrc := two_receiveD hT9 (by omega) f.length f A9 c9 w9.heap.size (Reads.of_own hown9) (Nat.le_refl _) (own_cap hown9) hfl2
        have hhr := fun {W : World} {T1 T2 : Nat → Prop} (h : HalfD w1.heap.size W a ma b mb (m.receive f).1 m T1 T2) (hr : Reads W W.heap.size 1 A8 f.length (u8c f)) => half_receiveD f.length f h (by omega) A8 c8 W.heap.size hr (Nat.le_refl _) (own_cap hown8)
        generalize m.receive f = qq at *
        obtain ⟨q1, q2, q3⟩ := qq
        simp only at hap hdat hrc hhr hl8
        clear hT8 hQ8 hg9 hat9 hb9 hr8f
        refine hrc.mono ?_
        rintro e w10 ⟨x10, T', rfl, hown10, hH10, hsub10, hdj10, hk10, hb10⟩
        obtain ⟨A10, c10, rfl⟩ := own_slice hown10
        have hQ10 := hQ9.trans hb10
        have hr10 := (Reads.of_own (ownsRow_keep hown89 hk10 (fun y hy h => by have h1 := (hg8 y hy).1; have h2 := hltO _ h; omega)))
        have hg10 := hown10.lt
        clear hrc hT9 hQ9 hown89 hb10 hown9
        go_wp2_with fail
        refine (hhr hH10 hr10).mono ?_
        rintro e w11 ⟨x11, T2, rfl, hx11, hT11, hsub11, _, hk11, hb11⟩
        have hQ11 := hQ10.trans hb11
        have hown11 := ownsRow_keep hown10 hk11 (fun y hy h => by have h1 := (hg10 y hy).1; have h2 := hltO _ h; omega)
        have hsee := two_seeD hT11
        clear hhr hH10 hr10 hown10 hk11 hb11 hx11
        go_wp2_with fail
        refine hsee.mono ?_
        rintro e w12 ⟨x12, rfl, hown12, hb12⟩
        obtain ⟨A12, c12, rfl⟩ := own_slice hown12
        have hbE := (Below.refl w12.heap.size w12).alloc (Nat.le_refl _) (.cells #[.int .i64 q1.see.state, .int .u32 q1.see.session, .int .u32 q1.see.number, .int .u32 q1.see.sent, .int .i64 q1.see.since, .int .i64 q1.see.latched, .bool q1.see.request, .bool q1.see.on, .slice A12 q1.see.out.length c12] 57)
        have hE := Blk.new w12 57 #[.int .i64 q1.see.state, .int .u32 q1.see.session, .int .u32 q1.see.number, .int .u32 q1.see.sent, .int .i64 q1.see.since, .int .i64 q1.see.latched, .bool q1.see.request, .bool q1.see.on, .slice A12 q1.see.out.length c12]
        have hT12 := (hT11.below hb12).below hbE
        have hQ12 := hQ11.trans (hb12.mono hT11.Ble)
        have hQ13 := hQ12.trans (hbE.mono hQ12.size)
        have hown13 := own_below (own_below hown11 hb12) hbE
        clear hsee hT11 hQ11 hQ12 hown11 hown12 hb12
        unfold endVal
        go_upto_region 26 with fail
        obtain ⟨gE, HgE⟩ : ∃ g, Hid (g = w12.heap.size) := ⟨_, Lib.hid rfl⟩
        rw [← HgE.out] at hE ⊢
        generalize w12.alloc (.cells _ 57) = w13 at *
        have hdec := r4decode_any A10 q2.length c10 w13.heap.size q2 w13 (Reads.of_own hown13) (Nat.le_refl _) (own_cap hown13)
        have hdo := decode_ok q2
        generalize decodeM q2 = dd at *
        obtain ⟨⟨uk, uc, us, un, uf, ud⟩, e2⟩ := dd
        unfold unitVal at hdec
        simp only at hdat hdec hdo
        have hfb := flags_bits q1.valve H
        obtain ⟨s1, s2, s3, s4, s5⟩ := see_facts q1
        rw [← s3, ← s4, ← s5] at hfb
        rw [← s2] at hdat
        clear s1 s2 s3 s4 s5 hown13
        generalize hvv : q1.valve = vv at *
        generalize q1.see = em at *
        obtain ⟨st, ses, num, snt, snc, lat, req, on, eo⟩ := em
        simp only at *
        have hcE := hE.cell
        by_cases h70 : q3 = 70
        · subst h70
          rw [if_pos rfl, if_pos rfl] at hap
          clear hdat hfb hdo
          go_wp2_with fail
          refine hdec.mono ?_
          rintro e w14 ⟨v14, rfl, hown14, hb14⟩
          obtain ⟨A14, c14, rfl⟩ := own_slice hown14
          have hbU := (Below.refl w14.heap.size w14).alloc (Nat.le_refl _) (.cells #[.int .i64 uk, .int .u32 uc, .int .u32 us, .int .u32 un, .int .i64 uf, .slice A14 ud.length c14] 64)
          have hU := Blk.new w14 64 #[.int .i64 uk, .int .u32 uc, .int .u32 us, .int .u32 un, .int .i64 uf, .slice A14 ud.length c14]
          have hbV := hb14.trans (hbU.mono hb14.size)
          have hT10 := hT12.below hbV
          have hQ10 := hQ13.trans (hbV.mono hQ13.size)
          have hE14 := hE.below hbV hE.lt
          have hownU := own_below hown14 hbU
          clear hdec hown14 hb14 hbU hbV hT12 hQ13 hE hcE
          go_upto_region 29 with fail
          obtain ⟨gU, HgU⟩ : ∃ g, Hid (g = w14.heap.size) := ⟨_, Lib.hid rfl⟩
          rw [← HgU.out] at hU ⊢
          generalize w14.alloc (.cells _ 64) = w15 at *
          have hcU := hU.cell
          have hcE := hE14.cell
          clear hcU hcE
          go_wp2_with fail
          go_roundg (300 - (i + 1))
          case measure => have := Hq.out; omega
          case rel =>
            have h1 := Hq.out
            have h2 := Hin.out
            have h3 := Hlg2.out
            exact ⟨i + 1, _, _, _, _, rfl, rfl, by go_num, by omega, by omega, by omega, hT10, hQ10, hap⟩
        rw [if_neg h70, if_neg h70] at hap
        have g70 : (q3 == 70) = false := by simpa using h70
        by_cases h0 : q3 = 0
        · subst h0
          by_cases he2 : e2 = 0
          · subst he2
            by_cases hk : uk = 20
            · have gk : (uk != 20) = false := by simp [hk]
              obtain ⟨f1, f2, f3⟩ := hdat rfl rfl hk
              rw [← f1] at hfb
              obtain ⟨b1, b2, b3, b4⟩ := hfb
              subst f2 f3
              have k1 : ((!on) == on) = false := by cases on <;> rfl
              have Hk := Lib.hid hk
              clear hdat hdo f1 hk
              go_wp2_with fail
              refine hdec.mono ?_
              rintro e w14 ⟨v14, rfl, hown14, hb14⟩
              obtain ⟨A14, c14, rfl⟩ := own_slice hown14
              have hbU := (Below.refl w14.heap.size w14).alloc (Nat.le_refl _) (.cells #[.int .i64 uk, .int .u32 uc, .int .u32 us, .int .u32 un, .int .i64 uf, .slice A14 ud.length c14] 64)
              have hU := Blk.new w14 64 #[.int .i64 uk, .int .u32 uc, .int .u32 us, .int .u32 un, .int .i64 uf, .slice A14 ud.length c14]
              have hbV := hb14.trans (hbU.mono hb14.size)
              have hT10 := hT12.below hbV
              have hQ10 := hQ13.trans (hbV.mono hQ13.size)
              have hE14 := hE.below hbV hE.lt
              have hownU := own_below hown14 hbU
              clear hdec hown14 hb14 hbU hbV hT12 hQ13 hE hcE
              go_upto_region 29 with fail
              obtain ⟨gU, HgU⟩ : ∃ g, Hid (g = w14.heap.size) := ⟨_, Lib.hid rfl⟩
              rw [← HgU.out] at hU ⊢
              generalize w14.alloc (.cells _ 64) = w15 at *
              have hcU := hU.cell
              have hcE := hE14.cell
              have hk := Hk.out
              have hcv := conv_reads (c := c14) (Reads.of_own hownU)
              go_wp2_with fail
              go_roundg (300 - (i + 1))
              case measure => have := Hq.out; omega
              case rel =>
                have h1 := Hq.out
                have h2 := Hin.out
                have h3 := Hlg2.out
                exact ⟨i + 1, _, _, _, _, rfl, rfl, by go_num, by omega, by omega, by omega, hT10, hQ10, hap⟩
            · have gk : (uk != 20) = true := by simpa using hk
              clear hdat hfb hdo
              go_wp2_with fail
              refine hdec.mono ?_
              rintro e w14 ⟨v14, rfl, hown14, hb14⟩
              obtain ⟨A14, c14, rfl⟩ := own_slice hown14
              have hbU := (Below.refl w14.heap.size w14).alloc (Nat.le_refl _) (.cells #[.int .i64 uk, .int .u32 uc, .int .u32 us, .int .u32 un, .int .i64 uf, .slice A14 ud.length c14] 64)
              have hU := Blk.new w14 64 #[.int .i64 uk, .int .u32 uc, .int .u32 us, .int .u32 un, .int .i64 uf, .slice A14 ud.length c14]
              have hbV := hb14.trans (hbU.mono hb14.size)
              have hT10 := hT12.below hbV
              have hQ10 := hQ13.trans (hbV.mono hQ13.size)
              have hE14 := hE.below hbV hE.lt
              have hownU := own_below hown14 hbU
              clear hdec hown14 hb14 hbU hbV hT12 hQ13 hE hcE
              go_upto_region 29 with fail
              obtain ⟨gU, HgU⟩ : ∃ g, Hid (g = w14.heap.size) := ⟨_, Lib.hid rfl⟩
              rw [← HgU.out] at hU ⊢
              generalize w14.alloc (.cells _ 64) = w15 at *
              have hcU := hU.cell
              have hcE := hE14.cell
              clear hcE
              go_wp2_with fail
              go_roundg (300 - (i + 1))
              case measure => have := Hq.out; omega
              case rel =>
                have h1 := Hq.out
                have h2 := Hin.out
                have h3 := Hlg2.out
                exact ⟨i + 1, _, _, _, _, rfl, rfl, by go_num, by omega, by omega, by omega, hT10, hQ10, hap⟩
          · have ge2 : (e2 != 0) = true := by simpa using he2
            clear hdat hfb hdo
            go_wp2_with fail
            refine hdec.mono ?_
            rintro e w14 ⟨v14, rfl, hown14, hb14⟩
            obtain ⟨A14, c14, rfl⟩ := own_slice hown14
            have hbU := (Below.refl w14.heap.size w14).alloc (Nat.le_refl _) (.cells #[.int .i64 uk, .int .u32 uc, .int .u32 us, .int .u32 un, .int .i64 uf, .slice A14 ud.length c14] 64)
            have hU := Blk.new w14 64 #[.int .i64 uk, .int .u32 uc, .int .u32 us, .int .u32 un, .int .i64 uf, .slice A14 ud.length c14]
            have hbV := hb14.trans (hbU.mono hb14.size)
            have hT10 := hT12.below hbV
            have hQ10 := hQ13.trans (hbV.mono hQ13.size)
            have hE14 := hE.below hbV hE.lt
            have hownU := own_below hown14 hbU
            clear hdec hown14 hb14 hbU hbV hT12 hQ13 hE hcE
            go_upto_region 29 with fail
            obtain ⟨gU, HgU⟩ : ∃ g, Hid (g = w14.heap.size) := ⟨_, Lib.hid rfl⟩
            rw [← HgU.out] at hU ⊢
            generalize w14.alloc (.cells _ 64) = w15 at *
            have hcU := hU.cell
            have hcE := hE14.cell
            clear hcU hcE
            go_wp2_with fail
            go_roundg (300 - (i + 1))
            case measure => have := Hq.out; omega
            case rel =>
              have h1 := Hq.out
              have h2 := Hin.out
              have h3 := Hlg2.out
              exact ⟨i + 1, _, _, _, _, rfl, rfl, by go_num, by omega, by omega, by omega, hT10, hQ10, hap⟩
        · have g0 : (q3 != 0) = true := by simpa using h0
          clear hdat hfb hdo
          go_wp2_with fail
          refine hdec.mono ?_
          rintro e w14 ⟨v14, rfl, hown14, hb14⟩
          obtain ⟨A14, c14, rfl⟩ := own_slice hown14
          have hbU := (Below.refl w14.heap.size w14).alloc (Nat.le_refl _) (.cells #[.int .i64 uk, .int .u32 uc, .int .u32 us, .int .u32 un, .int .i64 uf, .slice A14 ud.length c14] 64)
          have hU := Blk.new w14 64 #[.int .i64 uk, .int .u32 uc, .int .u32 us, .int .u32 un, .int .i64 uf, .slice A14 ud.length c14]
          have hbV := hb14.trans (hbU.mono hb14.size)
          have hT10 := hT12.below hbV
          have hQ10 := hQ13.trans (hbV.mono hQ13.size)
          have hE14 := hE.below hbV hE.lt
          have hownU := own_below hown14 hbU
          clear hdec hown14 hb14 hbU hbV hT12 hQ13 hE hcE
          go_upto_region 29 with fail
          obtain ⟨gU, HgU⟩ : ∃ g, Hid (g = w14.heap.size) := ⟨_, Lib.hid rfl⟩
          rw [← HgU.out] at hU ⊢
          generalize w14.alloc (.cells _ 64) = w15 at *
          have hcU := hU.cell
          have hcE := hE14.cell
          clear hcU hcE
          go_wp2_with fail
          go_roundg (300 - (i + 1))
          case measure => have := Hq.out; omega
          case rel =>
            have h1 := Hq.out
            have h2 := Hin.out
            have h3 := Hlg2.out
            exact ⟨i + 1, _, _, _, _, rfl, rfl, by go_num, by omega, by omega, by omega, hT10, hQ10, hap⟩
    · have hd : decide (i < n ∧ i < 300) = false := by simpa using hlt
      obtain ⟨W0, rfl⟩ : ∃ W : World, W = wr := ⟨_, rfl⟩
      clear hops
      go_upto_region 11 with fail
      go_cut [58] (fun v wc => v = .bool (decide (i < n ∧ i < 300)) ∧ wc = W0)
      case first =>
        by_cases h1 : i < n
        · have h2 : ¬ i < 300 := fun h => hlt ⟨h1, h⟩
          go_wp2_with fail
          go_meet
          exact ⟨by have e : ((i : Int) < 300) ↔ (i < 300) := by omega
                    simp [h1, h2, e], rfl⟩
        · go_wp2_with fail
          go_meet
          exact ⟨by simp [h1], rfl⟩
      case rest =>
      obtain ⟨rfl, hwc⟩ := hcut
      subst hwc
      rw [hd]
      clear hlt hd
      go_wp2_with fail
      go_ret
      exact ⟨rfl, hB⟩
end Go.Proofs.YtlldgfejcjnpkaaGreat
