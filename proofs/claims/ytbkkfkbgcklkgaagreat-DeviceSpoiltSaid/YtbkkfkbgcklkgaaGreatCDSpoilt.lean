/- The walk of DeviceSpoilt. -/
import Derived.Test.YtbkkfkbgcklkgaaGreatCDLaw
import Derived.Deep.RegionHeld3
import Derived.Deep.RegionHeld
namespace Go.Proofs.YtbkkfkbgcklkgaaGreat
open Go.RowKit
set_option maxHeartbeats 10000000
set_option maxRecDepth 100000

theorem deviceSpoilt_law (A : Option Addr) (n c : Nat) (l : List OpM) (u : UnitM) (Au : Option Addr) (cu : Nat) (at_ word : Int) (w : World) (hops : OpsAt w w.heap.size A n l) (hn : n ≤ 140737488351232) (hu : u.Ok) (hru : Reads w w.heap.size 1 Au u.data.length (u8c u.data)) (hw : 0 ≤ word ∧ word < 4294967296) :
    Calls Tryz.prog 9 #[.slice A n c, unitVal u (.slice Au u.data.length cu), .int .i64 at_, .int .u32 word] w fun e w' => e = .returned (.bool true) ∧ Below w.heap.size w w' := by
  have hbX := (Below.refl w.heap.size w).alloc (Nat.le_refl _) (.cells #[.int .i64 u.kind, .int .u32 u.code, .int .u32 u.session, .int .u32 u.number, .int .i64 u.flags, .slice Au u.data.length cu] 68)
  have hX := Blk.new w 68 #[.int .i64 u.kind, .int .u32 u.code, .int .u32 u.session, .int .u32 u.number, .int .i64 u.flags, .slice Au u.data.length cu]
  have hfr := fun (W : World) (hb : Below w.heap.size w W) => l13frame_any u Au cu w.heap.size W hu (hru.below hb) hb.size
  have hsp := fun x h => spoilt_decode (x := x) (at_ := at_) (word := word) hu h
  have hel := encode_small u
  generalize u.encode = enc at *
  unfold unitVal at *
  generalize u.data.length = ud at *
  obtain ⟨ukind, ucode, usession, unumber, uflags, udata⟩ := u
  simp only at *
  clear hru hu
  go_enter Tryz.func9, Tryz.ntmps9
  go_upto_region 1 with fail
  obtain ⟨g0, Hg0⟩ : ∃ g, Hid (g = w.heap.size) := ⟨_, Lib.hid rfl⟩
  rw [← Hg0.out] at hX ⊢
  generalize w.alloc (.cells _ 68) = w0 at *
  go_wp2_with fail
  refine (lawAwakeD_any _).mono ?_
  rintro e wA ⟨rfl, hb1⟩
  have hbA := hbX.trans (hb1.mono hbX.size)
  have hX1 := hX.below hb1 hX.lt
  have hcX := hX1.cell
  go_wp2_with fail
  refine (hfr wA hbA).mono ?_
  rintro e wF ⟨v2, rfl, hown2, hb2⟩
  obtain ⟨A2, c2, rfl⟩ := own_slice hown2
  have hbF := hbA.trans (hb2.mono hbA.size)
  have hbu := burst_any A2 enc.length c2 wF.heap.size enc at_ word wF (Reads.of_own hown2) (Nat.le_refl _) (by omega) hw
  clear hcX hX1 hX hb1 hb2 hown2 hfr hbX
  cases hbm : burstM enc at_ word with
  | none =>
    rw [hbm] at hbu
    clear hbm hsp
    go_wp2_with fail
    refine hbu.mono ?_
    rintro e w1 ⟨v3, rfl, h3, h4, hb3⟩
    have hb3' := hbF.trans (hb3.mono hbF.size)
    clear h4 h3
    go_wp2_with fail
    go_ret
    exact ⟨rfl, hb3'⟩
  | some x =>
    rw [hbm] at hbu
    obtain ⟨hdx, hxl⟩ := hsp x hbm
    clear hbm hsp
    go_wp2_with fail
    refine hbu.mono ?_
    rintro e w1 ⟨v3, rfl, h3, h4, hb3⟩
    have hown3 := h4 x rfl
    obtain ⟨A3, c3, rfl⟩ := own_slice hown3
    have hb1' := hbF.trans (hb3.mono hbF.size)
    have hr1 := Reads.of_own hown3
    have hc3 := own_cap hown3
    clear h4 h3 hbu hbF hbA hb3 hown3
    go_wp2_with fail
    refine (memNew16_any w1).mono ?_
    rintro e w2 ⟨ma, rfl, hM2, hb2⟩
    have hz1 := hb1'.size
    have hb2' := hb1'.trans (hb2.mono hz1)
    go_wp2_with fail
    refine (rmemNew16_any w2).mono ?_
    rintro e w3 ⟨mb, rfl, hM3, hb3⟩
    have hb3' := hb2'.trans (hb3.mono hb2'.size)
    obtain ⟨F1, F2, hMs⟩ := mems_new hM2 hb2 hM3 hb3
    have hz3 : w1.heap.size ≤ w3.heap.size := Nat.le_trans hb2.size hb3.size
    have hq3 := hb2.trans (hb3.mono hb2.size)
    clear hM2 hM3 hb2 hb3 hb2'
    go_wp2_with fail
    refine (lawSmall_any w3).mono ?_
    rintro e w4 ⟨rfl, hb4⟩
    have hMs4 := hMs.below hb4
    have hb4' := hb3'.trans (hb4.mono hb3'.size)
    have hz4 : w1.heap.size ≤ w4.heap.size := Nat.le_trans hz3 hb4.size
    have hq4 := hq3.trans (hb4.mono hz3)
    clear hMs hb4 hb3' hq3
    unfold parVal smallM
    simp only
    go_wp2_with fail
    refine (devFirst_any ma F1 w1.heap.size 9 w4 hMs4.m1 hMs4.lo1 hz4 ⟨by decide, by decide⟩).mono ?_
    rintro e w5 ⟨a, F3, rfl, hI5, hk5, hs5⟩
    obtain ⟨hM5, hlo5, hdj5⟩ := hMs4.dev hk5 hs5
    have hq5 : Below w1.heap.size w1 w5 := hq4.trans (hk5.below hz4 (fun x hx => (hMs4.lo1 x hx).1))
    clear hMs4 hk5 hs5 hq4 hb4'
    go_wp2_with fail
    refine (lawSmall_any w5).mono ?_
    rintro e w6 ⟨rfl, hb6⟩
    have hI6 := hI5.below hb6
    have hM6 := hM5.below hb6
    have hlo6 : ∀ x, F2 x → w1.heap.size ≤ x ∧ x < w6.heap.size := fun x hx => by have := hlo5 x hx; have := hb6.size; omega
    have hz6 : w1.heap.size ≤ w6.heap.size := Nat.le_trans hq5.size hb6.size
    have hq6 := hq5.trans (hb6.mono hq5.size)
    clear hI5 hM5 hlo5 hb6 hq5
    unfold parVal smallM
    simp only
    go_wp2_with fail
    refine (rdFirst_any mb F2 w1.heap.size 9 w6 hM6 hlo6 (by decide)).mono ?_
    rintro e w7 ⟨b, rfl, hR7, hk7⟩
    have hT := two_newD (first_inv 9 ⟨by decide, by decide⟩) hI6 hdj5 hR7 hk7
    have hq7 : Below w1.heap.size w1 w7 := hq6.trans (hk7.below hz6 (fun x hx => (hlo6 x hx).1))
    have hb7' := hb1'.trans (hq7.mono hz1)
    clear hM6 hlo6 hI6 hdj5 hR7 hk7 hq6
    go_wp2_with fail
    go_loopg [20] 300 (fun q v20 wr => ∃ (i : Nat) (m : DevM) (T : Nat → Prop), v20 = .int .i64 i ∧ i + q = 300 ∧ i ≤ n ∧ m.log.length ≤ 4 * i ∧ TwoD w1.heap.size wr a ma b mb m T ∧ Below w1.heap.size w1 wr)
    case atStart => exact ⟨0, _, _, rfl, by omega, by omega, by simp [DevM.first], hT, hq7⟩
    case round =>
      clear hT hb7' hq7
      obtain ⟨i, m, T, rfl, hq, hin, hlg, hT, hQ⟩ := hrel
      have hB := hb1'.trans (hQ.mono hz1)
      by_cases hlt : i < n ∧ i < 300
      · obtain ⟨h1, h2⟩ := hlt
        obtain ⟨ad, o, D, co, rfl, ho, ⟨p0, p1, p2, p3, p4, p5, p6⟩, hok, hrd, hdc, hdl, hadB⟩ := ops_at (hops.below hB) h1
        have Hq := Lib.hid hq
        have hst := two_stepD hT (by omega) o D co hok (hrd.more hB.size) (fun hn ad e => .inl (by obtain ⟨ad', e', hb', _⟩ := hrd.2 hn; rw [e] at e'; injection e' with e'; subst e'; omega)) hdc hdl
        obtain ⟨okind, on_, oflags, oodd, odata, oat, oword⟩ := o
        unfold opVal at hst
        simp only at *
        clear hq ho hok hrd hdc hdl
        go_wp2_with fail
        refine hst.mono ?_
        rintro e w8 ⟨rfl, hT8, hk8, hb8⟩
        have hQ8 := hQ.trans hb8
        have hl8 := stepD_log m ⟨okind, on_, oflags, oodd, odata, oat, oword⟩
        go_wp2_with fail
        go_roundg (300 - (i + 1))
        case measure => have := Hq.out; omega
        case rel =>
          have := Hq.out
          exact ⟨i + 1, _, _, by go_num, by omega, by omega, by omega, hT8, hQ8⟩
      · have hd : decide (i < n ∧ i < 300) = false := by simpa using hlt
        obtain ⟨W0, rfl⟩ : ∃ W : World, W = wr := ⟨_, rfl⟩
        clear hops
        go_upto_region 14 with fail
        go_cut [73] (fun v wc => v = .bool (decide (i < n ∧ i < 300)) ∧ wc = W0)
        case first =>
          by_cases h1 : i < n
          · have h2 : ¬ i < 300 := fun h => hlt ⟨h1, h⟩
            go_wp2_with fail
            go_meet
            exact ⟨by have e : ((i : Int) < 300) ↔ (i < 300) := by omega
                      simp [h1, h2, e], rfl⟩
          · go_wp2_with fail
            go_meet
            exact ⟨by simp [h1], rfl⟩
        case rest =>
        obtain ⟨rfl, hwc⟩ := hcut
        subst hwc
        rw [hd]
        clear hlt hd
        have hr := hr1.below hQ
        have hsee := two_seeD hT
        have hlg6 : m.log.length ≤ 1200 := by omega
        obtain ⟨m2, er, hrx, hsame, hi2, hcase⟩ : ∃ m2 er, m.receive x = (m2, [], er) ∧ m2.see = m.see ∧ m2.Inv ∧ ((m.state = 6 ∧ er = 70 ∧ m2.log.length = m.log.length) ∨ (m.state ≠ 6 ∧ er = 42 ∧ m2.log.length = m.log.length + 1)) := by
          have hvi := hT.inv.receive x
          by_cases h6 : m.state = 6
          · have e := down_receive x h6
            rw [e] at hvi
            exact ⟨m, 70, e, rfl, hvi, .inl ⟨h6, rfl, rfl⟩⟩
          · have e := spoilt_receive hdx h6
            rw [e] at hvi
            exact ⟨_, 42, e, rfl, hvi, .inr ⟨h6, rfl, by simp [noteM]⟩⟩
        have hsm := fun (A1 A2 : Option Addr) (c1 c2 : Nat) (W : World) h1 h2 => r13same_any m.see A1 A2 c1 c2 W.heap.size W h1 h2 (Nat.le_refl _)
        have Hst : Hid (m.see.state = m.state) := Lib.hid rfl
        clear hq hlg hin hdx
        go_wp2_with fail
        refine hsee.mono ?_
        rintro e w8 ⟨x8, rfl, hown8, hb8⟩
        obtain ⟨A8, c8, rfl⟩ := own_slice hown8
        have hT8 := hT.below hb8
        have hB8 := hB.trans (hb8.mono hB.size)
        have hr8 := hr.below (hb8.mono hT.Ble)
        have hlt8 := hT.lt
        have hg8 := hown8.lt
        have hbE := (Below.refl w8.heap.size w8).alloc (Nat.le_refl _) (.cells #[.int .i64 m.see.state, .int .u32 m.see.session, .int .u32 m.see.number, .int .u32 m.see.sent, .int .i64 m.see.since, .int .i64 m.see.latched, .bool m.see.request, .bool m.see.on, .slice A8 m.see.out.length c8] 52)
        have hE := Blk.new w8 52 #[.int .i64 m.see.state, .int .u32 m.see.session, .int .u32 m.see.number, .int .u32 m.see.sent, .int .i64 m.see.since, .int .i64 m.see.latched, .bool m.see.request, .bool m.see.on, .slice A8 m.see.out.length c8]
        have hT9 := hT8.below hbE
        have hB9 := hB8.trans (hbE.mono hB8.size)
        have hr9 := hr8.below (hbE.mono hT8.Ble)
        have hown9 := own_below hown8 hbE
        unfold endVal at hsm ⊢
        clear hsee hT hT8 hB hB8 hr hr8 hown8
        go_upto_region 19 with fail
        obtain ⟨gE, HgE⟩ : ∃ g, Hid (g = w8.heap.size) := ⟨_, Lib.hid rfl⟩
        have hTE : ¬ T gE := fun h => by have h1 := hT9.lt _ h; have h2 := hlt8 _ h; have h3 := HgE.out; have h4 := hb8.size; omega
        rw [← HgE.out] at hE ⊢
        generalize w8.alloc (.cells _ 52) = w9 at *
        have hsame2 := hsame
        generalize m.see = em at *
        obtain ⟨st, ses, num, snt, snc, lat, req, on, out⟩ := em
        simp only at *
        have hlog := two_logD hT9 (by omega)
        obtain ⟨L, HL⟩ : ∃ L, Hid (L = m.log.length) := ⟨_, Lib.hid rfl⟩
        have hlg2 : L ≤ 1200 := by rw [HL.out]; exact hlg6
        rw [← HL.out] at hlog
        have hLw : IntKind.i64.wrap ((L : Int) + 1) = ((L + 1 : Nat) : Int) := by rw [IntWalk.i64_in _ (by omega)]; rfl
        have Hlg := Lib.hid hlg6
        have Hcase := Lib.hid hcase
        have Hlg2 := Lib.hid hlg2
        clear hlg6 hcase hlg2
        go_wp2_with fail
        refine hlog.mono ?_
        rintro e w10 ⟨x10, rfl, _, hb10⟩
        have hT10 := hT9.below hb10
        have hB10 := hB9.trans (hb10.mono hB9.size)
        have hr10 := hr9.below (hb10.mono hT9.Ble)
        have hE10 := hE.below hb10 hE.lt
        have hown10 := own_below hown9 hb10
        have hrc := two_receiveD hT10 (by have := Hlg.out; omega) x.length x A3 c3 w1.heap.size hr10 hT10.Ble hc3 (by omega)
        rw [hrx] at hrc
        simp only at hrc
        clear hlog hT9 hB9 hr9 hE hown9 hb10 hr10
        go_wp2_with fail
        refine hrc.mono ?_
        rintro e w11 ⟨x11, T', rfl, hx11, hH, _, _, hk11, hb11⟩
        obtain ⟨A11, c11, rfl⟩ := own_slice hx11
        have hB11 := hB10.trans (hb11.mono hz1)
        have hE11 := hE10.keep hk11 hTE
        have hown11 := ownsRow_keep hown10 hk11 (fun g hg h => by have h1 := (hg8 g hg).1; have h2 := hlt8 _ h; omega)
        obtain ⟨F1', F2', hP', _⟩ := hH.pair
        have hI11 := hP'.dev
        obtain ⟨L2, HL2⟩ : ∃ L, Hid (L = m2.log.length) := ⟨_, Lib.hid rfl⟩
        have hlog := devLog_any w1.heap.size a ma m2 F1' w11 hI11 (by have := Hlg.out; have := Hcase.out; omega)
        rw [← HL2.out] at hlog
        clear hrc hB10 hE10 hown10 hk11 hb11 hT10 hx11 hP' hH
        go_wp2_with fail
        refine hlog.mono ?_
        rintro e w12 ⟨x12, rfl, _, hb12⟩
        have hI12 := hI11.below hb12
        have hB12 := hB11.trans (hb12.mono hB11.size)
        have hE12 := hE11.below hb12 hE11.lt
        have hown12 := own_below hown11 hb12
        clear hlog hI11 hB11 hE11 hown11 hb12
        go_upto_region 22 with fail
        replace hE12 := hE12.drew
        replace hB12 := hB12.drew
        replace hI12 := hI12.below (Below.refl w12.heap.size w12).drew
        replace hown12 := own_below hown12 (Below.refl w12.heap.size w12).drew
        have hsee := devSee_any w1.heap.size a ma m2 F1' w12.drew hI12 hi2
        rw [hsame2] at hsee
        unfold endVal at hsee
        simp only at hsee
        go_wp2_with fail
        go_region_held (fun w' => w'.cell? ⟨gE, 0, none⟩ = some (.int .i64 st) ∧ w'.cell? ⟨gE, 1, none⟩ = some (.int .u32 ses) ∧ w'.cell? ⟨gE, 2, none⟩ = some (.int .u32 num) ∧ w'.cell? ⟨gE, 3, none⟩ = some (.int .u32 snt) ∧ w'.cell? ⟨gE, 4, none⟩ = some (.int .i64 snc) ∧ w'.cell? ⟨gE, 5, none⟩ = some (.int .i64 lat) ∧ w'.cell? ⟨gE, 6, none⟩ = some (.bool req) ∧ w'.cell? ⟨gE, 7, none⟩ = some (.bool on) ∧ w'.cell? ⟨gE, 8, none⟩ = some (.slice A8 out.length c8)) (exact endSD9 hE12) (first
          | (go_at_call 21; refine hsee.mono ?_; rintro e w13 ⟨x13, rfl, hown13, hb13⟩; obtain ⟨A13, c13, rfl⟩ := own_slice hown13; replace hE12 := hE12.below hb13 hE12.lt; replace hB12 := hB12.trans (hb13.mono hB12.size); replace hown12 := own_below hown12 hb13)
          | (go_at_call 22; refine (hsm A8 A13 c8 c13 w13 (Reads.of_own hown12) (Reads.of_own hown13)).mono ?_; rintro e w14 ⟨rfl, hb14⟩; replace hE12 := hE12.below hb14 hE12.lt; replace hB12 := hB12.trans (hb14.mono hB12.size)))
        have hcE := hE12.cell
        have hcs : (st = 6 ∧ er = 70 ∧ L2 = L) ∨ ((st == 6) = false ∧ er = 42 ∧ L2 = L + 1) := by
          have h1 := Hcase.out
          have h2 := HL.out
          have h3 := HL2.out
          have h4 := Hst.out
          rcases h1 with ⟨a1, a2, a3⟩ | ⟨a1, a2, a3⟩
          · exact .inl ⟨by omega, a2, by omega⟩
          · exact .inr ⟨by simp; omega, a2, by omega⟩
        clear Hcase HL HL2 Hst
        rcases hcs with ⟨rfl, rfl, rfl⟩ | ⟨g6, rfl, rfl⟩
        all_goals
          go_wp2_with fail
          go_ret
          exact ⟨rfl, hB12⟩
end Go.Proofs.YtbkkfkbgcklkgaaGreat
