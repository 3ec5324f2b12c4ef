/- The walk of HostSpoilt. -/
import Derived.Test.YtfoldlbnkfnenaaGreatCTwoB
namespace Go.Proofs.YtfoldlbnkfnenaaGreat
open Go.RowKit
set_option maxHeartbeats 10000000
set_option maxRecDepth 100000

theorem endS9 {w : World} {g : Nat} {x0 x1 x2 x3 x4 x5 x6 x7 x8 : Value} (h : Blk w g 53 #[x0, x1, x2, x3, x4, x5, x6, x7, x8]) :
    w.cell? ⟨g, 0, none⟩ = some x0 ∧ w.cell? ⟨g, 1, none⟩ = some x1 ∧ w.cell? ⟨g, 2, none⟩ = some x2 ∧ w.cell? ⟨g, 3, none⟩ = some x3 ∧ w.cell? ⟨g, 4, none⟩ = some x4 ∧ w.cell? ⟨g, 5, none⟩ = some x5 ∧ w.cell? ⟨g, 6, none⟩ = some x6 ∧ w.cell? ⟨g, 7, none⟩ = some x7 ∧ w.cell? ⟨g, 8, none⟩ = some x8 :=
  ⟨(h.cell 0).trans rfl, (h.cell 1).trans rfl, (h.cell 2).trans rfl, (h.cell 3).trans rfl, (h.cell 4).trans rfl, (h.cell 5).trans rfl, (h.cell 6).trans rfl, (h.cell 7).trans rfl, (h.cell 8).trans rfl⟩
theorem hostSpoilt_law (A : Option Addr) (n c : Nat) (l : List OpM) (u : UnitM) (Au : Option Addr) (cu : Nat) (at_ word : Int) (w : World) (hops : OpsAt w w.heap.size A n l) (hn : n ≤ 140737488351232) (hu : u.Ok) (hru : Reads w w.heap.size 1 Au u.data.length (u8c u.data)) (hw : 0 ≤ word ∧ word < 4294967296) :
    Calls Tryz.prog 8 #[.slice A n c, unitVal u (.slice Au u.data.length cu), .int .i64 at_, .int .u32 word] w fun e w' => e = .returned (.bool true) ∧ Below w.heap.size w w' := by
  have hbX := (Below.refl w.heap.size w).alloc (Nat.le_refl _) (.cells #[.int .i64 u.kind, .int .u32 u.code, .int .u32 u.session, .int .u32 u.number, .int .i64 u.flags, .slice Au u.data.length cu] 60)
  have hX := Blk.new w 60 #[.int .i64 u.kind, .int .u32 u.code, .int .u32 u.session, .int .u32 u.number, .int .i64 u.flags, .slice Au u.data.length cu]
  have hfr := fun (W : World) (hb : Below w.heap.size w W) => l14frame_any u Au cu w.heap.size W hu (hru.below hb) hb.size
  have hsp := fun x h => spoilt_receive (x := x) (at_ := at_) (word := word) hu h
  have hel := encode_small u
  generalize u.encode = enc at *
  unfold unitVal at *
  generalize u.data.length = ud at *
  obtain ⟨ukind, ucode, usession, unumber, uflags, udata⟩ := u
  simp only at *
  clear hru hu
  go_enter Tryz.func8, Tryz.ntmps8
  go_upto_region 1 with fail
  obtain ⟨g0, Hg0⟩ : ∃ g, Hid (g = w.heap.size) := ⟨_, Lib.hid rfl⟩
  rw [← Hg0.out] at hX ⊢
  generalize w.alloc (.cells _ 60) = w0 at *
  go_wp2_with fail
  refine (lawAwake_any _).mono ?_
  rintro e w1 ⟨rfl, hb1⟩
  have hb1' := hbX.trans (hb1.mono hbX.size)
  have hX1 := hX.below hb1 hX.lt
  have hcX := hX1.cell
  go_wp2_with fail
  refine (hfr w1 hb1').mono ?_
  rintro e w2 ⟨v2, rfl, hown2, hb2⟩
  obtain ⟨A2, c2, rfl⟩ := own_slice hown2
  have hb2' := hb1'.trans (hb2.mono hb1'.size)
  have hbu := burst_any A2 enc.length c2 w2.heap.size enc at_ word w2 (Reads.of_own hown2) (Nat.le_refl _) (by omega) hw
  clear hcX hX1 hX hb1 hb2 hown2 hfr hbX
  cases hbm : burstM enc at_ word with
  | none =>
    rw [hbm] at hbu
    clear hbm hsp
    go_wp2_with fail
    refine hbu.mono ?_
    rintro e w3 ⟨v3, rfl, h3, h4, hb3⟩
    have hb3' := hb2'.trans (hb3.mono hb2'.size)
    clear h4 h3
    go_wp2_with fail
    go_ret
    exact ⟨rfl, hb3'⟩
  | some x =>
    rw [hbm] at hbu
    have hrx := hsp x hbm
    clear hbm hsp
    go_wp2_with fail
    refine hbu.mono ?_
    rintro e w3 ⟨v3, rfl, h3, h4, hb3⟩
    have hown3 := h4 x rfl
    obtain ⟨A3, c3, rfl⟩ := own_slice hown3
    have hb3' := hb2'.trans (hb3.mono hb2'.size)
    clear h4 h3 hbu hb2' hb3
    go_wp2_with fail
    refine (lawSmall_any _).mono ?_
    rintro e w4 ⟨rfl, hb4⟩
    have hb4' := hb3'.trans (hb4.mono hb3'.size)
    have hr4 := ((Reads.of_own hown3).below hb4).more hb4.size
    have hc3 := own_cap hown3
    have hsz4 := hb4'.size
    clear hown3 hb3' hb4
    unfold parVal smallM
    simp only
    go_wp2_with fail
    refine (hostNew_any smallM w4 small_lawful).mono ?_
    rintro e w5 ⟨a, F1, rfl, hI, hb5⟩
    have hb5' := hb4'.trans (hb5.mono hb4'.size)
    have hr5 := hr4.below hb5
    have hz5 := hb5.size
    clear hr4
    go_wp2_with fail
    refine (lawSmall_any _).mono ?_
    rintro e w6 ⟨rfl, hb6⟩
    have hI6 := hI.below hb6
    have hb6' := hb5'.trans (hb6.mono hb5'.size)
    have hr6 := hr5.below (hb6.mono hz5)
    have hz6 := hb6.size
    clear hI hb6 hb5 hb5' hr5
    unfold parVal smallM
    simp only
    go_wp2_with fail
    refine (rhNew_any smallM w6 small_ok small_lawful).mono ?_
    rintro e w7 ⟨b, F2, rfl, hR, hb7⟩
    have hT := two_new smallM small_ok small_lawful hI6 hR hb7
    have hb7' := hb6'.trans (hb7.mono hb6'.size)
    have hr7 := hr6.below (hb7.mono (by omega))
    clear hI6 hR hb7 hb6' hr6
    go_wp2_with fail
    go_loopg [15] 300 (fun q v15 wr => ∃ (i : Nat) (m : HostM) (T : Nat → Prop), v15 = .int .i64 i ∧ i + q = 300 ∧ i ≤ n ∧ m.log.length ≤ 2 * i ∧ Two w4.heap.size wr a b m T ∧ Reads wr w4.heap.size 1 A3 x.length (u8c x) ∧ Below w.heap.size w wr)
    case atStart => exact ⟨0, _, _, rfl, by omega, by omega, by simp [HostM.new], hT, hr7, hb7'⟩
    case round =>
      clear hT hr7 hb7'
      obtain ⟨i, m, T, rfl, hq, hin, hlg, hT, hr, hB⟩ := hrel
      by_cases hlt : i < n ∧ i < 300
      · obtain ⟨h1, h2⟩ := hlt
        obtain ⟨ad, o, D, co, rfl, ho, ⟨p0, p1, p2, p3, p4, p5, p6⟩, hok, hrd, hdc, hdl, hadB⟩ := ops_at (hops.below hB) h1
        have Hq := Lib.hid hq
        have hst := two_step hT (by omega) o D co hok (hrd.more hB.size) (fun hn ad e => .inl (by obtain ⟨ad', e', hb', _⟩ := hrd.2 hn; rw [e] at e'; injection e' with e'; subst e'; omega)) hdc hdl
        obtain ⟨okind, on_, oflags, oodd, odata, oat, oword⟩ := o
        unfold opVal at hst
        simp only at *
        clear hq ho hok hrd hdc hdl
        go_wp2_with fail
        refine hst.mono ?_
        rintro e w8 ⟨rfl, hT8, hk8, hb8⟩
        have hB8 := hB.trans (hb8.mono hsz4)
        have hr8 := hr.below hb8
        have hl8 := stepM_log m ⟨okind, on_, oflags, oodd, odata, oat, oword⟩
        go_wp2_with fail
        go_roundg (300 - (i + 1))
        case measure => have := Hq.out; omega
        case rel =>
          have := Hq.out
          exact ⟨i + 1, _, _, by go_num, by omega, by omega, by omega, hT8, hr8, hB8⟩
      · have hd : decide (i < n ∧ i < 300) = false := by simpa using hlt
        obtain ⟨W0, rfl⟩ : ∃ W : World, W = wr := ⟨_, rfl⟩
        clear hops
        go_upto_region 11 with fail
        go_cut [56] from 49 to 66 (fun v56 wc => v56 = .bool (decide (i < n ∧ i < 300)) ∧ wc = W0)
        case first =>
          by_cases h1 : i < n
          · have h2 : ¬ i < 300 := fun h => hlt ⟨h1, h⟩
            go_wp2_with fail
            go_meet
            exact ⟨by have e : ((i : Int) < 300) ↔ (i < 300) := by omega
                      simp [h1, h2, e], rfl⟩
          · go_wp2_with fail
            go_meet
            exact ⟨by simp [h1], rfl⟩
        case rest =>
          obtain ⟨rfl, hwc⟩ := hcut
          subst hwc
          rw [hd]
          have hlg6 : m.log.length ≤ 600 := by omega
          clear hlt hd hq hlg
          have hlg := hlg6
          clear hlg6
          have hsee := two_see hT
          have hrm := (hrx m).1
          have hsame : ({ m with log := noteM m.log 42 m.session m.number } : HostM).see = m.see := rfl
          have hsm := fun (A1 A2 : Option Addr) (c1 c2 : Nat) (W : World) h1 h2 => r13same_any m.see A1 A2 c1 c2 W.heap.size W h1 h2 (Nat.le_refl _)
          have hnl : ({ m with log := noteM m.log 42 m.session m.number } : HostM).log.length = m.log.length + 1 := by simp [noteM]
          have hng : ({ m with log := noteM m.log 42 m.session m.number } : HostM).Good := hT.good.log _
          generalize ({ m with log := noteM m.log 42 m.session m.number } : HostM) = m2 at *
          have hxl := (hrx m).2
          clear hrx
          go_wp2_with fail
          refine hsee.mono ?_
          rintro e w8 ⟨x8, rfl, hown8, hb8⟩
          obtain ⟨A8, c8, rfl⟩ := own_slice hown8
          have hT8 := hT.below hb8
          have hB8 := hB.trans (hb8.mono hB.size)
          have hr8 := hr.below (hb8.mono hT.Ble)
          have hlt8 := hT.lt
          have hg8 := hown8.lt
          have hbE := (Below.refl w8.heap.size w8).alloc (Nat.le_refl _) (.cells #[.int .i64 m.see.state, .int .u32 m.see.session, .int .u32 m.see.number, .int .u32 m.see.sent, .int .i64 m.see.since, .int .i64 m.see.latched, .bool m.see.request, .bool m.see.on, .slice A8 m.see.out.length c8] 53)
          have hE := Blk.new w8 53 #[.int .i64 m.see.state, .int .u32 m.see.session, .int .u32 m.see.number, .int .u32 m.see.sent, .int .i64 m.see.since, .int .i64 m.see.latched, .bool m.see.request, .bool m.see.on, .slice A8 m.see.out.length c8]
          have hT9 := hT8.below hbE
          have hB9 := hB8.trans (hbE.mono hB8.size)
          have hr9 := hr8.below (hbE.mono hT8.Ble)
          have hown9 := own_below hown8 hbE
          unfold endVal at hsm ⊢
          clear hsee hT hT8 hB hB8 hr hr8 hown8
          go_upto_region 16 with fail
          obtain ⟨gE, HgE⟩ : ∃ g, Hid (g = w8.heap.size) := ⟨_, Lib.hid rfl⟩
          have hTE : ¬ T gE := fun h => by have h1 := hT9.lt _ h; have h2 := hlt8 _ h; have h3 := HgE.out; have h4 := hb8.size; omega
          rw [← HgE.out] at hE ⊢
          generalize w8.alloc (.cells _ 53) = w9 at *
          generalize m.see = em at *
          obtain ⟨st, ses, num, snt, snc, lat, req, on, out⟩ := em
          simp only at *
          have hlog := two_log hT9 (by omega)
          generalize hL : m.log.length = L at *
          have hLw : IntKind.i64.wrap ((L : Int) + 1) = ((L + 1 : Nat) : Int) := by rw [IntWalk.i64_in _ (by omega)]; rfl
          have Hlg := Lib.hid hlg
          have HL := Lib.hid hL
          have Hin := Lib.hid hin
          clear hlg hL hin
          go_wp2_with fail
          refine hlog.mono ?_
          rintro e w10 ⟨x10, rfl, _, hb10⟩
          have hT10 := hT9.below hb10
          have hB10 := hB9.trans (hb10.mono hB9.size)
          have hr10 := hr9.below (hb10.mono hT9.Ble)
          have hE10 := hE.below hb10 hE.lt
          have hown10 := own_below hown9 hb10
          have hrc := two_receive hT10 (by have := HL.out; have := Hlg.out; omega) x.length x A3 c3 w4.heap.size hr10 hT10.Ble hc3 (by omega)
          rw [hrm] at hrc
          simp only at hrc
          clear hlog hT9 hB9 hr9 hE hown9 hb10 hrm hr10
          go_wp2_with fail
          refine hrc.mono ?_
          rintro e w11 ⟨rfl, ⟨F, hI⟩, hk11, hb11⟩
          have hB11 := hB10.trans (hb11.mono hsz4)
          have hE11 := hE10.keep hk11 hTE
          have hown11 := ownsRow_keep hown10 hk11 (fun g hg h => by have h1 := (hg8 g hg).1; have h2 := hlt8 _ h; omega)
          have hlog := hostLog_any w4.heap.size a m2 F w11 hI (by have := HL.out; have := Hlg.out; have := hnl; omega)
          rw [hnl] at hlog
          clear hrc hB10 hE10 hown10 hk11 hb11 hT10
          go_wp2_with fail
          refine hlog.mono ?_
          rintro e w12 ⟨x12, rfl, _, hb12⟩
          have hI12 := hI.below hb12
          have hB12 := hB11.trans (hb12.mono hB11.size)
          have hE12 := hE11.below hb12 hE11.lt
          have hown12 := own_below hown11 hb12
          clear hlog hI hB11 hE11 hown11 hb12
          go_upto_region 19 with fail
          replace hE12 := hE12.drew
          replace hB12 := hB12.drew
          replace hI12 := hI12.below (Below.refl w12.heap.size w12).drew
          replace hown12 := own_below hown12 (Below.refl w12.heap.size w12).drew
          have hsee := hostSee_any w4.heap.size a m2 F w12.drew hI12 hng.inv
          rw [hsame] at hsee
          unfold endVal at hsee
          simp only at hsee
          go_wp2_with fail
          go_region_held3 (fun w' => w'.cell? ⟨gE, 0, none⟩ = some (.int .i64 st) ∧ w'.cell? ⟨gE, 1, none⟩ = some (.int .u32 ses) ∧ w'.cell? ⟨gE, 2, none⟩ = some (.int .u32 num) ∧ w'.cell? ⟨gE, 3, none⟩ = some (.int .u32 snt) ∧ w'.cell? ⟨gE, 4, none⟩ = some (.int .i64 snc) ∧ w'.cell? ⟨gE, 5, none⟩ = some (.int .i64 lat) ∧ w'.cell? ⟨gE, 6, none⟩ = some (.bool req) ∧ w'.cell? ⟨gE, 7, none⟩ = some (.bool on) ∧ w'.cell? ⟨gE, 8, none⟩ = some (.slice A8 out.length c8)) (exact endS9 hE12) (first
            | (go_at_call 24; refine hsee.mono ?_; rintro e w13 ⟨x13, rfl, hown13, hb13⟩; obtain ⟨A13, c13, rfl⟩ := own_slice hown13; replace hE12 := hE12.below hb13 hE12.lt; replace hB12 := hB12.trans (hb13.mono hB12.size); replace hown12 := own_below hown12 hb13)
            | (go_at_call 31; refine (hsm A8 A13 c8 c13 w13 (Reads.of_own hown12) (Reads.of_own hown13)).mono ?_; rintro e w14 ⟨rfl, hb14⟩; replace hE12 := hE12.below hb14 hE12.lt; replace hB12 := hB12.trans (hb14.mono hB12.size)))
          go_wp2_with fail
          go_ret
          exact ⟨rfl, hB12⟩
end Go.Proofs.YtfoldlbnkfnenaaGreat
