/- The walk of HostFlags. -/
import Derived.Test.YtfoldlbnkfnenaaGreatCTwoB
import Derived.Test.YtfoldlbnkfnenaaGreatCFlagM
import Derived.Deep.RegionHeld3
namespace Go.Proofs.YtfoldlbnkfnenaaGreat
open Go.RowKit
set_option maxHeartbeats 10000000
set_option maxRecDepth 100000

theorem and_bits (f : Int) (h : 0 ≤ f ∧ f ≤ 15) : bits BinOp.and IntKind.i64 f 1 = f % 2 ∧ bits BinOp.and IntKind.i64 f 2 = f / 2 % 2 * 2 ∧ bits BinOp.and IntKind.i64 f 4 = f / 4 % 2 * 4 ∧ bits BinOp.and IntKind.i64 f 8 = f / 8 % 2 * 8 := by
  have hc : f = 0 ∨ f = 1 ∨ f = 2 ∨ f = 3 ∨ f = 4 ∨ f = 5 ∨ f = 6 ∨ f = 7 ∨ f = 8 ∨ f = 9 ∨ f = 10 ∨ f = 11 ∨ f = 12 ∨ f = 13 ∨ f = 14 ∨ f = 15 := by omega
  rcases hc with rfl | rfl | rfl | rfl | rfl | rfl | rfl | rfl | rfl | rfl | rfl | rfl | rfl | rfl | rfl | rfl <;> exact ⟨by kernel_rfl, by kernel_rfl, by kernel_rfl, by kernel_rfl⟩
theorem opS34 {w : World} {g : Nat} {x0 x1 x2 x3 x4 x5 x6 : Value} (h : Blk w g 48 #[x0, x1, x2, x3, x4, x5, x6]) : w.cell? ⟨g, 3, none⟩ = some x3 ∧ w.cell? ⟨g, 4, none⟩ = some x4 := ⟨(h.cell 3).trans rfl, (h.cell 4).trans rfl⟩
theorem hostFlags_law (A : Option Addr) (n c : Nat) (l : List OpM) (w : World) (hops : OpsAt w w.heap.size A n l) (hn : n ≤ 140737488351232) :
    Calls Tryz.prog 7 #[.slice A n c] w fun e w' => e = .returned (.bool true) ∧ Below w.heap.size w w' := by
  go_enter Tryz.func7, Tryz.ntmps7
  go_wp2_with fail
  refine (lawAwake_any _).mono ?_
  rintro e w1 ⟨rfl, hb1⟩
  go_wp2_with fail
  refine (lawSmall_any _).mono ?_
  rintro e w2 ⟨rfl, hb2⟩
  have hb2' := hb1.trans (hb2.mono hb1.size)
  have hbP := hb2'.alloc hb2'.size (.cells #[.int .u32 7, .int .i64 2, .int .i64 1, .int .i64 10, .int .u32 200] 30)
  have hP := Blk.new w2 30 #[.int .u32 7, .int .i64 2, .int .i64 1, .int .i64 10, .int .u32 200]
  unfold parVal smallM
  simp only
  go_upto_region 5 with fail
  obtain ⟨gP, HgP⟩ : ∃ g, Hid (g = w2.heap.size) := ⟨_, Lib.hid rfl⟩
  rw [← HgP.out] at hP ⊢
  generalize w2.alloc (.cells #[.int .u32 7, .int .i64 2, .int .i64 1, .int .i64 10, .int .u32 200] 30) = w3 at *
  have hcP := hP.cell
  go_wp2_with fail
  refine (hostNew_any flagP w3 flagP_lawful).mono ?_
  rintro e w4 ⟨a, F1, rfl, hI, hb4⟩
  have hb4' := hbP.trans (hb4.mono hbP.size)
  have hP4 := hP.below hb4 hP.lt
  have hz3 := hbP.size
  clear hcP
  have hcP := hP4.cell
  go_wp2_with fail
  refine (rhNew_any flagP w4 flagP_ok flagP_lawful).mono ?_
  rintro e w5 ⟨b, F2, rfl, hR, hb5⟩
  have hT := two_new flagP flagP_ok flagP_lawful hI hR hb5
  have hb5' := hb4'.trans (hb5.mono hb4'.size)
  clear hcP hI hR hb4 hb4' hb5 hb2 hb2' hb1 hP4 hP hbP
  go_wp2_with fail
  go_loopg [8, 9, 10] 300 (fun q v8 v9 v10 wr => ∃ (i : Nat) (m : HostM) (T : Nat → Prop), v8 = .string ⟨m.value.toArray⟩ ∧ v9 = .bool m.hold ∧ v10 = .int .i64 i ∧ i + q = 300 ∧ i ≤ n ∧ m.log.length ≤ 2 * i ∧ m.p = flagP ∧ Two w3.heap.size wr a b m T ∧ Below w.heap.size w wr)
  case atStart => exact ⟨0, HostM.new flagP, _, rfl, rfl, rfl, by omega, by omega, by simp [HostM.new], rfl, hT, hb5'⟩
  case round =>
    clear hT hb5'
    obtain ⟨i, m, T, rfl, rfl, rfl, hq, hin, hlg, hp, hT, hB⟩ := hrel
    by_cases hlt : i < n ∧ i < 300
    · obtain ⟨h1, h2⟩ := hlt
      have Hq := Lib.hid hq
      clear hq
      obtain ⟨ad, o, D, co, rfl, ho, ⟨p0, p1, p2, p3, p4, p5, p6⟩, hok, hrd, hdc, hdl, hadB⟩ := ops_at (hops.below hB) h1
      have hfs := flag_step m o hp
      have hl8 := stepM_log m o
      obtain ⟨okind, on_, oflags, oodd, odata, oat, oword⟩ := o
      simp only at p0 p1 p2 p3 p4 p5 p6 hrd hdc hdl hfs
      have hmt := hT.lt
      have hbO := (Below.refl wr.heap.size wr).alloc (Nat.le_refl _) (.cells #[.int .i64 okind, .int .i64 on_, .int .i64 oflags, .bool oodd, .slice D odata.length co, .int .i64 oat, .int .u32 oword] 48)
      have hO := Blk.new wr 48 #[.int .i64 okind, .int .i64 on_, .int .i64 oflags, .bool oodd, .slice D odata.length co, .int .i64 oat, .int .u32 oword]
      have hTA := hT.below hbO
      have hBA := hB.trans (hbO.mono hB.size)
      have hrdA := hrd.below (hbO.mono hB.size)
      have hsee := two_see hTA
      go_upto_region 14 with fail
      obtain ⟨gO, HgO⟩ : ∃ g, Hid (g = wr.heap.size) := ⟨_, Lib.hid rfl⟩
      have hTO : ¬ T gO := fun h => by have h1 := hmt _ h; have h2 := HgO.out; omega
      rw [← HgO.out] at hO ⊢
      generalize wr.alloc (.cells _ 48) = wA at *
      have e1 : m.valve.on = m.see.on := rfl
      have e2 : m.valve.request = m.see.request := rfl
      have e3 : m.valve.latched = m.see.latched := rfl
      have e4 : m.sent = m.see.sent := rfl
      have hbits := flag_bits m.valve m.hold
      have hfl := flagsM_ok m.valve m.hold
      have hsd := flag_send hT.good hT.live hp
      rw [e1, e2, e3] at hbits
      rw [e4] at hsd
      generalize m.see = em at *
      obtain ⟨st, ses, num, snt, snc, lat, req, on, out⟩ := em
      simp only at hbits hsd hsee
      unfold endVal at hsee
      simp only at hsee
      clear e1 e2 e3 e4 hT hB hbO hrd p0 p1 p2 p3 p4 p5 p6
      go_wp2_with fail
      refine hsee.mono ?_
      rintro e wB ⟨xB, rfl, hownB, hbB⟩
      obtain ⟨AB, cB, rfl⟩ := own_slice hownB
      have hbE := (Below.refl wB.heap.size wB).alloc (Nat.le_refl _) (.cells #[.int .i64 st, .int .u32 ses, .int .u32 num, .int .u32 snt, .int .i64 snc, .int .i64 lat, .bool req, .bool on, .slice AB out.length cB] 53)
      have hE := Blk.new wB 53 #[.int .i64 st, .int .u32 ses, .int .u32 num, .int .u32 snt, .int .i64 snc, .int .i64 lat, .bool req, .bool on, .slice AB out.length cB]
      have hbBE := hbB.trans (hbE.mono hbB.size)
      have hOB := hO.below hbBE hO.lt
      have hTB := hTA.below hbBE
      have hBB := hBA.trans (hbBE.mono hBA.size)
      have hrdB := hrdA.below (hbBE.mono hBA.size)
      have hmtA := hTA.lt
      clear hO hTA hBA hrdA hsee hownB
      go_upto_region 15 with fail
      obtain ⟨gE, HgE⟩ : ∃ g, Hid (g = wB.heap.size) := ⟨_, Lib.hid rfl⟩
      have hTE : ¬ T gE := fun h => by have h1 := hmtA _ h; have h2 := HgE.out; have h3 := hbB.size; omega
      rw [← HgE.out] at hE ⊢
      generalize wB.alloc (.cells _ 53) = wC at *
      clear hbB hbE hbBE
      have hcO := hOB.cell
      have hst := two_step hTB (by omega) ⟨okind, on_, oflags, oodd, odata, oat, oword⟩ D co hok (hrdB.more hBB.size) (fun hn ad e => .inl (by obtain ⟨ad', e', hb', _⟩ := hrdB.2 hn; rw [e] at e'; injection e' with e'; subst e'; omega)) hdc hdl
      unfold opVal at hst
      simp only at hst
      by_cases k12 : okind = 12
      · subst k12
        have hsend := two_send hTB (by omega)
        have hl9 := send_log m
        have Hbd := Lib.hid (show i + 1 + (300 - (i + 1)) = 300 ∧ i + 1 ≤ n ∧ m.send.1.log.length ≤ 2 * (i + 1) from ⟨by have := Hq.out; omega, by omega, by omega⟩)
        have hln : m.log.length < 1073741600 := by omega
        obtain ⟨hs1, hs2, hs3, hs4⟩ := hsd
        have hlt := hTB.lt
        clear hlg hin hl9 hst hfs hl8 hok hdc hdl
        rcases hs4 with hse | ⟨u, hse, hdu, huc⟩
        · rw [hse] at hsend
          simp only [List.length_nil] at hsend
          go_wp2_with fail
          refine hsend.mono ?_
          rintro e w9 ⟨x9, rfl, hown9, hh9, hk9, hb9⟩
          obtain ⟨A9, c9, rfl⟩ := own_slice hown9
          have hB9 := hBB.trans (hb9.mono hz3)
          have hrs := half_send hh9 hln
          clear hsend hh9 hk9 hb9 hBB hcO hOB hE hTB hrdB
          go_wp2_with fail
          refine hrs.mono ?_
          rintro e w10 ⟨x10, rfl, hown10, hT10, hk10, hb10⟩
          have hB10 := hB9.trans (hb10.mono hz3)
          have hown9' := ownsRow_keep hown9 hk10 (fun x hx h => by have h1 := (hown9.lt x hx).1; have h2 := hlt x h; omega)
          have hd0 : decodeM [] = (UnitM.zero, 40) := by unfold decodeM; rw [if_pos (by simp)]
          have hdec := r4decode_any A9 0 c9 w10.heap.size [] w10 (Reads.of_own hown9') (Nat.le_refl _) (own_cap hown9')
          rw [hd0] at hdec
          unfold unitVal UnitM.zero at hdec
          simp only [List.length_nil] at hdec
          obtain ⟨A10, c10, rfl⟩ := own_slice hown10
          clear hrs hown9 hown10 hk10 hb10 hB9 hown9'
          go_wp2_with fail
          refine hdec.mono ?_
          rintro e w11 ⟨v11, rfl, hown11, hb11⟩
          obtain ⟨A11, c11, rfl⟩ := own_slice hown11
          have hT11 := hT10.below hb11
          have hB11 := hB10.trans (hb11.mono hB10.size)
          have hbU := (Below.refl w11.heap.size w11).alloc (Nat.le_refl _) (.cells #[.int .i64 0, .int .u32 0, .int .u32 0, .int .u32 0, .int .i64 0, .slice A11 0 c11] 60)
          have hT12 := hT11.below hbU
          have hB12 := hB11.trans (hbU.mono hB11.size)
          clear hbU hT11 hB11 hb11 hT10 hB10 hown11 hdec
          go_wp2_with fail
          go_roundg (300 - (i + 1))
          case measure => have := Hq.out; omega
          case rel =>
            have h3 := Hbd.out
            exact ⟨i + 1, _, _, by rw [hs2], by rw [hs3], by go_num, h3.1, h3.2.1, h3.2.2, hs1, hT12, hB12⟩
        · generalize hen : u.encode = enc at *
          have hl0 : m.send.2.1.length = enc.length := by rw [hse]
          rw [hse] at hsend
          simp only at hsend
          have hrs := fun {w : World} {T' : Nat → Prop} (h : Half w3.heap.size w a b m T T') => half_send h hln
          have hdec := fun (A : Option Addr) (c : Nat) (W : World) (h : Reads W W.heap.size 1 A enc.length (u8c enc)) (hc : enc.length ≤ c) => r4decode_any A enc.length c W.heap.size enc W h (Nat.le_refl _) hc
          rw [hdu] at hdec
          clear hl0 hdu hen hse
          obtain ⟨uk, uc, us, un, uf, ud⟩ := u
          simp only at huc hdec
          unfold unitVal at hdec
          simp only at hdec
          go_wp2_with fail
          refine hsend.mono ?_
          rintro e w9 ⟨x9, rfl, hown9, hh9, hk9, hb9⟩
          obtain ⟨A9, c9, rfl⟩ := own_slice hown9
          have hE9 := hE.keep hk9 hTE
          have hB9 := hBB.trans (hb9.mono hz3)
          have hrs9 := hrs hh9
          clear hsend hrs hk9 hb9 hBB hcO hOB hE hTB hrdB
          go_wp2_with fail
          refine hrs9.mono ?_
          rintro e w10 ⟨x10, rfl, hown10, hT10, hk10, hb10⟩
          obtain ⟨A10, c10, rfl⟩ := own_slice hown10
          have hE10 := hE9.keep hk10 hTE
          have hB10 := hB9.trans (hb10.mono hz3)
          have hown9' := ownsRow_keep hown9 hk10 (fun x hx h => by have h1 := (hown9.lt x hx).1; have h2 := hlt x h; omega)
          have hdec9 := hdec A9 c9 w10 (Reads.of_own hown9') (own_cap hown9')
          clear hrs9 hown9 hown10 hk10 hb10 hE9 hB9 hown9' hdec hh9
          go_wp2_with fail
          refine hdec9.mono ?_
          rintro e w11 ⟨v11, rfl, hown11, hb11⟩
          obtain ⟨A11, c11, rfl⟩ := own_slice hown11
          have hT11 := hT10.below hb11
          have hB11 := hB10.trans (hb11.mono hB10.size)
          have hE11 := hE10.below hb11 hE10.lt
          have hbU := (Below.refl w11.heap.size w11).alloc (Nat.le_refl _) (.cells #[.int .i64 uk, .int .u32 uc, .int .u32 us, .int .u32 un, .int .i64 uf, .slice A11 ud.length c11] 60)
          have hU := Blk.new w11 60 #[.int .i64 uk, .int .u32 uc, .int .u32 us, .int .u32 un, .int .i64 uf, .slice A11 ud.length c11]
          have hT12 := hT11.below hbU
          have hB12 := hB11.trans (hbU.mono hB11.size)
          have hE12 := hE11.below hbU hE11.lt
          have hown12 := own_below hown11 hbU
          clear hbU hT11 hB11 hb11 hT10 hB10 hE10 hE11 hown11 hdec9
          go_upto_region 25 with fail
          obtain ⟨gu, Hgu⟩ : ∃ x, Hid (x = w11.heap.size) := ⟨_, Lib.hid rfl⟩
          rw [← Hgu.out] at hU ⊢
          generalize w11.alloc (.cells #[.int .i64 uk, .int .u32 uc, .int .u32 us, .int .u32 un, .int .i64 uf, .slice A11 ud.length c11] 60) = w12 at *
          have hcU := hU.cell
          have hcE := hE12.cell
          rcases huc with hk4 | ⟨rfl, hf, hv, hnn, h200, hs0⟩
          · have g4 : (uk == 4) = false := by simpa using hk4
            have j4 : (uk != 4) = true := by simpa using hk4
            go_wp2_with fail
            go_roundg (300 - (i + 1))
            case measure => have := Hq.out; omega
            case rel =>
              have h3 := Hbd.out
              exact ⟨i + 1, _, _, by rw [hs2], by rw [hs3], by go_num, h3.1, h3.2.1, h3.2.2, hs1, hT12, hB12⟩
          · have hand := and_bits _ hfl
            obtain ⟨a1, a2, a4, a8, ⟨r1, b1⟩, ⟨r2, b2⟩, ⟨r4, b4⟩, ⟨r8, b8⟩⟩ := hbits
            rw [r1, r2, r4, r8, ← hf] at hand
            obtain ⟨n1, n2, n4, n8⟩ := hand
            clear r1 r2 r4 r8 hf hfl
            have hcv := conv_reads (c := c11) (Reads.of_own hown12)
            subst hv
            have hwr : IntKind.u32.wrap (snt + 1) = un := by rw [IntKind.wrap_u32]; omega
            clear hnn h200 hs0
            go_wp2_with fail
            go_roundg (300 - (i + 1))
            case measure => have := Hq.out; omega
            case rel =>
              have h3 := Hbd.out
              exact ⟨i + 1, _, _, by rw [hs2], by rw [hs3], by go_num, h3.1, h3.2.1, h3.2.2, hs1, hT12, hB12⟩
      · have hfs := hfs k12
        have q12 : (okind == 12) = false := by simpa using k12
        have j12 : (okind != 12) = true := by simpa using k12
        go_wp2_with fail
        refine hst.mono ?_
        rintro e w8 ⟨rfl, hT8, hk8, hb8⟩
        have hB8 := hBB.trans (hb8.mono hz3)
        have hO8 := hOB.keep hk8 hTO
        have hr8 := hrdB.below (hb8.mono hz3)
        clear hcO hst hOB hrdB hTB hBB hE hk8 hb8 hsd hbits
        have hcO := hO8.cell
        by_cases k9 : okind = 9 ∧ odata.length = 2
        · obtain ⟨k9, kl⟩ := k9
          subst k9
          have hv := hfs.2.1 rfl kl
          rw [kl] at hcO hO8 hr8
          have hOd := hO8.drew
          have hcv := conv_reads (c := co) hr8.drew
          go_upto_region 19 with fail
          go_region_held (fun w' => (w'.cell? ⟨gO, 3, none⟩ = some (.bool oodd) ∧ w'.cell? ⟨gO, 4, none⟩ = some (.slice D 2 co)) ∧ (convert 22 9 (.slice D 2 co)).run Tryz.prog w' = .ok (.string ⟨odata.toArray⟩) w') (exact ⟨opS34 hOd, hcv⟩) (first | fail)
          clear hcO
          have hcO := hOd.cell
          replace hT8 := hT8.below (Below.refl w8.heap.size w8).drew
          replace hB8 := hB8.drew
          go_wp2_with fail
          go_roundg (300 - (i + 1))
          case measure => have := Hq.out; omega
          case rel =>
            have := Hq.out
            exact ⟨i + 1, _, _, by rw [hv.1], by rw [hv.2], by go_num, by omega, by omega, by omega, hfs.1, hT8, hB8⟩
        · by_cases k11 : okind = 11
          · subst k11
            have hv := hfs.2.2.1 rfl
            go_wp2_with fail
            go_roundg (300 - (i + 1))
            case measure => have := Hq.out; omega
            case rel =>
              have := Hq.out
              exact ⟨i + 1, _, _, by rw [hv.1], by rw [hv.2], by go_num, by omega, by omega, by omega, hfs.1, hT8, hB8⟩
          · have hv := hfs.2.2.2 (by omega) k11
            have q11 : (okind == 11) = false := by simpa using k11
            have j11 : (okind != 11) = true := by simpa using k11
            rcases Classical.em (okind = 9) with h9 | h9
            · subst h9
              have hl2 : ¬ odata.length = 2 := fun h => k9 ⟨rfl, h⟩
              have ql : ((odata.length : Int) == 2) = false := by simp; omega
              have jl : ((odata.length : Int) != 2) = true := by simp; omega
              have hl3 : ¬ ((odata.length : Int) = 2) := by omega
              clear k9
              go_wp2_with fail
              go_roundg (300 - (i + 1))
              case measure => have := Hq.out; omega
              case rel =>
                have := Hq.out
                exact ⟨i + 1, _, _, by rw [hv.1], by rw [hv.2], by go_num, by omega, by omega, by omega, hfs.1, hT8, hB8⟩
            · have q9 : (okind == 9) = false := by simpa using h9
              have j9 : (okind != 9) = true := by simpa using h9
              clear k9
              go_wp2_with fail
              go_roundg (300 - (i + 1))
              case measure => have := Hq.out; omega
              case rel =>
                have := Hq.out
                exact ⟨i + 1, _, _, by rw [hv.1], by rw [hv.2], by go_num, by omega, by omega, by omega, hfs.1, hT8, hB8⟩
    · have hd : decide (i < n ∧ i < 300) = false := by simpa using hlt
      obtain ⟨W0, rfl⟩ : ∃ W : World, W = wr := ⟨_, rfl⟩
      clear hops
      go_upto_region 11 with fail
      go_cut [44] from 37 to 145 (fun v44 wc => v44 = .bool (decide (i < n ∧ i < 300)) ∧ wc = W0)
      case first =>
        by_cases h1 : i < n
        · have h2 : ¬ i < 300 := fun h => hlt ⟨h1, h⟩
          go_wp2_with fail
          go_meet
          exact ⟨by have e : ((i : Int) < 300) ↔ (i < 300) := by omega
                    simp [h1, h2, e], rfl⟩
        · go_wp2_with fail
          go_meet
          exact ⟨by simp [h1], rfl⟩
      case rest =>
        obtain ⟨rfl, hwc⟩ := hcut
        subst hwc
        rw [hd]
        clear hlt hd hq
        go_wp2_with fail
        go_ret
        exact ⟨rfl, hB⟩
end Go.Proofs.YtfoldlbnkfnenaaGreat
