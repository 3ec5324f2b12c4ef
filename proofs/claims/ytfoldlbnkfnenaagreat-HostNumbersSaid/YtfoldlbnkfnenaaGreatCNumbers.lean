/- The walk of HostNumbers. -/
import Derived.Test.YtfoldlbnkfnenaaGreatCTwoB
import Derived.Test.YtfoldlbnkfnenaaGreatCNumM
import Derived.Deep.RegionHeld3
namespace Go.Proofs.YtfoldlbnkfnenaaGreat
open Go.RowKit
set_option maxHeartbeats 10000000
set_option maxRecDepth 100000

theorem unitS23 {w : World} {g : Nat} {x0 x1 x2 x3 x4 x5 : Value} (h : Blk w g 60 #[x0, x1, x2, x3, x4, x5]) : w.cell? ⟨g, 2, none⟩ = some x2 ∧ w.cell? ⟨g, 3, none⟩ = some x3 := ⟨(h.cell 2).trans rfl, (h.cell 3).trans rfl⟩
theorem hostNumbers_law (A : Option Addr) (n c : Nat) (l : List OpM) (w : World) (hops : OpsAt w w.heap.size A n l) (hn : n ≤ 140737488351232) :
    Calls Tryz.prog 5 #[.slice A n c] w fun e w' => e = .returned (.bool true) ∧ Below w.heap.size w w' := by
  have hfld := end_state
  go_enter Tryz.func5, Tryz.ntmps5
  go_wp2_with fail
  refine (lawAwake_any _).mono ?_
  rintro e w1 ⟨rfl, hb1⟩
  go_wp2_with fail
  refine (lawSmall_any _).mono ?_
  rintro e w2 ⟨rfl, hb2⟩
  have hb2' := hb1.trans (hb2.mono hb1.size)
  have hbP := hb2'.alloc hb2'.size (.cells #[.int .u32 7, .int .i64 2, .int .i64 1, .int .i64 10, .int .u32 9] 30)
  have hP := Blk.new w2 30 #[.int .u32 7, .int .i64 2, .int .i64 1, .int .i64 10, .int .u32 9]
  unfold parVal smallM
  simp only
  go_upto_region 4 with fail
  obtain ⟨gP, HgP⟩ : ∃ g, Hid (g = w2.heap.size) := ⟨_, Lib.hid rfl⟩
  rw [← HgP.out] at hP ⊢
  generalize w2.alloc (.cells #[.int .u32 7, .int .i64 2, .int .i64 1, .int .i64 10, .int .u32 9] 30) = w3 at *
  have hcP := hP.cell
  go_wp2_with fail
  refine (hostNew_any smallM w3 small_lawful).mono ?_
  rintro e w4 ⟨a, F1, rfl, hI, hb4⟩
  have hb4' := hbP.trans (hb4.mono hbP.size)
  have hP4 := hP.below hb4 hP.lt
  have hz3 := hbP.size
  have hPl := hP.lt
  clear hcP
  have hcP := hP4.cell
  go_wp2_with fail
  refine (rhNew_any smallM w4 small_ok small_lawful).mono ?_
  rintro e w5 ⟨b, F2, rfl, hR, hb5⟩
  have hT := two_new smallM small_ok small_lawful hI hR hb5
  have hb5' := hb4'.trans (hb5.mono hb4'.size)
  have hP5 := hP4.below hb5 hP4.lt
  clear hcP hI hR hb4 hb4' hb5 hb2 hb2' hb1 hP4 hP hbP
  go_wp2_with fail
  go_loopg [8, 9, 10] 300 (fun q v8 v9 v10 wr => ∃ (i : Nat) (m : HostM) (T : Nat → Prop) (s k : Int), v8 = .int .u32 s ∧ v9 = .int .u32 k ∧ v10 = .int .i64 i ∧ i + q = 300 ∧ i ≤ n ∧ m.log.length ≤ 2 * i ∧ NumInv m s k ∧ Two w3.heap.size wr a b m T ∧ Blk wr gP 30 #[.int .u32 7, .int .i64 2, .int .i64 1, .int .i64 10, .int .u32 9] ∧ Below w.heap.size w wr)
  case atStart => exact ⟨0, _, _, 0, 0, rfl, rfl, rfl, by omega, by omega, by simp [smallH, HostM.new], num_new, hT, hP5, hb5'⟩
  case round =>
    clear hT hb5' hP5
    obtain ⟨i, m, T, s, k, rfl, rfl, rfl, hq, hin, hlg, hN, hT, hP, hB⟩ := hrel
    by_cases hlt : i < n ∧ i < 300
    · obtain ⟨h1, h2⟩ := hlt
      have Hq := Lib.hid hq
      clear hq
      obtain ⟨ad, o, D, co, rfl, ho, ⟨p0, p1, p2, p3, p4, p5, p6⟩, hok, hrd, hdc, hdl, hadB⟩ := ops_at (hops.below hB) h1
      have hst := two_step hT (by omega) o D co hok (hrd.more hB.size) (fun hn ad e => .inl (by obtain ⟨ad', e', hb', _⟩ := hrd.2 hn; rw [e] at e'; injection e' with e'; subst e'; omega)) hdc hdl
      have hl8 := stepM_log m o
      by_cases k12 : o.kind = 12
      · have hsend := two_send hT (by omega)
        have hns := num_send hT.good hT.live hN
        have hl9 := send_log m
        have hmt := hT.lt
        have hin5 := hT.good.inv
        obtain ⟨okind, on_, oflags, oodd, odata, oat, oword⟩ := o
        simp only at k12
        subst k12
        simp only at p0
        clear ho hok hrd hdc hdl hst hl8
        have Hbd := Lib.hid (show i + 1 + (300 - (i + 1)) = 300 ∧ i + 1 ≤ n ∧ m.send.1.log.length ≤ 2 * (i + 1) from ⟨by have := Hq.out; omega, by omega, by omega⟩)
        have hln : m.log.length < 1073741600 := by omega
        clear hlg hin hl9
        rcases hns with ⟨hs5, hse⟩ | ⟨hs5, u, hse, hdu, huc, hcs⟩
        · rw [hse] at hsend
          simp only [List.length_nil] at hsend
          go_wp2_with fail
          refine hsend.mono ?_
          rintro e w9 ⟨x9, rfl, hown9, hh9, hk9, hb9⟩
          obtain ⟨A9, c9, rfl⟩ := own_slice hown9
          have hP9 := hP.below hb9 hPl
          have hB9 := hB.trans (hb9.mono hz3)
          have hrs := half_send hh9 hln
          rw [hse] at hrs
          simp only [List.length_nil] at hrs
          have hbz := hh9.lt
          clear hsend hh9 hk9 hb9 hP hB
          go_wp2_with fail
          refine hrs.mono ?_
          rintro e w10 ⟨x10, rfl, hown10, hT10, hk10, hb10⟩
          obtain ⟨A10, c10, rfl⟩ := own_slice hown10
          have hP10 := hP9.below hb10 (by have := hP9.lt; omega)
          have hB10 := hB9.trans (hb10.mono hz3)
          have hown9' := ownsRow_keep hown9 hk10 (fun x hx h => by have h1 := (hown9.lt x hx).1; have h2 := hmt x h; omega)
          have hd0 : decodeM [] = (UnitM.zero, 40) := by unfold decodeM; rw [if_pos (by simp)]
          have hdec := r4decode_any A9 0 c9 w10.heap.size [] w10 (Reads.of_own hown9') (Nat.le_refl _) (own_cap hown9')
          rw [hd0] at hdec
          unfold unitVal UnitM.zero at hdec
          simp only [List.length_nil] at hdec
          clear hrs hown9 hown10 hk10 hb10 hP9 hB9 hown9'
          go_wp2_with fail
          refine hdec.mono ?_
          rintro e w11 ⟨v11, rfl, hown11, hb11⟩
          obtain ⟨A11, c11, rfl⟩ := own_slice hown11
          have hT11 := hT10.below hb11
          have hB11 := hB10.trans (hb11.mono hB10.size)
          have hP11 := hP10.below hb11 hP10.lt
          have hbU := (Below.refl w11.heap.size w11).alloc (Nat.le_refl _) (.cells #[.int .i64 0, .int .u32 0, .int .u32 0, .int .u32 0, .int .i64 0, .slice A11 0 c11] 60)
          have hT12 := hT11.below hbU
          have hB12 := hB11.trans (hbU.mono hB11.size)
          have hP12 := hP11.below hbU hP11.lt
          clear hbU hT11 hB11 hb11 hT10 hB10 hP10 hP11 hown11 hdec
          go_upto_region 20 with fail
          generalize w11.alloc (.cells #[.int .i64 0, .int .u32 0, .int .u32 0, .int .u32 0, .int .i64 0, .slice A11 0 c11] 60) = w12 at *
          have hsee := two_see hT12
          have e1 : m.see.state = 5 := hs5
          generalize m.see = em at *
          obtain ⟨st, ses, num, snt, snc, lat, req, on, out⟩ := em
          simp only at e1
          subst e1
          unfold endVal at hsee
          simp only at hsee
          go_wp2_with fail
          refine hsee.mono ?_
          rintro e w13 ⟨x13, rfl, hown13, hb13⟩
          obtain ⟨A13, c13, rfl⟩ := own_slice hown13
          have hT13 := hT12.below hb13
          have hB13 := hB12.trans (hb13.mono hB12.size)
          have hP13 := hP12.below hb13 hP12.lt
          clear hsee hown13 hb13 hT12 hB12 hP12
          go_wp2_with fail
          go_roundg (300 - (i + 1))
          case measure => have := Hq.out; omega
          case rel =>
            have h3 := Hbd.out
            rw [hse] at h3
            exact ⟨i + 1, m, _, s, k, rfl, rfl, by go_num, h3.1, h3.2.1, h3.2.2, hN, hT13, hP13, hB13⟩
        · have h22 := hse
          obtain ⟨sd, hsd⟩ : ∃ sd, m.send = sd := ⟨_, rfl⟩
          have hdd := hdu
          generalize hen : u.encode = enc at *
          rw [hse] at hsend
          simp only at hsend
          have hrs := fun {w : World} {T' : Nat → Prop} (h : Half w3.heap.size w a b m T T') => half_send h hln
          rw [hse] at hrs
          simp only at hrs
          have hdec := fun (A : Option Addr) (c : Nat) (W : World) (h : Reads W W.heap.size 1 A enc.length (u8c enc)) (hc : enc.length ≤ c) => r4decode_any A enc.length c W.heap.size enc W h (Nat.le_refl _) hc
          rw [hdu] at hdec
          have Hse := Lib.hid hse
          clear h22 hsd sd hdd hdu hse hen
          obtain ⟨uk, uc, us, un, uf, ud⟩ := u
          simp only at huc hcs hdec
          subst huc
          unfold unitVal at hdec
          simp only at hdec
          generalize ud.length = nd at *
          generalize u8c ud = cd at *
          go_wp2_with fail
          refine hsend.mono ?_
          rintro e w9 ⟨x9, rfl, hown9, hh9, hk9, hb9⟩
          obtain ⟨A9, c9, rfl⟩ := own_slice hown9
          have hP9 := hP.below hb9 hPl
          have hB9 := hB.trans (hb9.mono hz3)
          have hrs9 := hrs hh9
          clear hsend hrs hk9 hb9 hP hB
          go_wp2_with fail
          refine hrs9.mono ?_
          rintro e w10 ⟨x10, rfl, hown10, hT10, hk10, hb10⟩
          obtain ⟨A10, c10, rfl⟩ := own_slice hown10
          have hP10 := hP9.below hb10 hPl
          have hB10 := hB9.trans (hb10.mono hz3)
          have hown9' := ownsRow_keep hown9 hk10 (fun x hx h => by have h1 := (hown9.lt x hx).1; have h2 := hmt x h; omega)
          have hdec9 := hdec A9 c9 w10 (Reads.of_own hown9') (own_cap hown9')
          clear hrs9 hown9 hown10 hk10 hb10 hP9 hB9 hown9' hdec hh9
          go_wp2_with fail
          refine hdec9.mono ?_
          rintro e w11 ⟨v11, rfl, hown11, hb11⟩
          obtain ⟨A11, c11, rfl⟩ := own_slice hown11
          have hT11 := hT10.below hb11
          have hB11 := hB10.trans (hb11.mono hB10.size)
          have hP11 := hP10.below hb11 hP10.lt
          have hbU := (Below.refl w11.heap.size w11).alloc (Nat.le_refl _) (.cells #[.int .i64 uk, .int .u32 7, .int .u32 us, .int .u32 un, .int .i64 uf, .slice A11 nd c11] 60)
          have hU := Blk.new w11 60 #[.int .i64 uk, .int .u32 7, .int .u32 us, .int .u32 un, .int .i64 uf, .slice A11 nd c11]
          have hT12 := hT11.below hbU
          have hB12 := hB11.trans (hbU.mono hB11.size)
          have hP12 := hP11.below hbU hP11.lt
          clear hbU hT11 hB11 hb11 hT10 hB10 hP10 hP11 hown11 hdec9
          go_upto_region 20 with fail
          obtain ⟨gu, Hgu⟩ : ∃ x, Hid (x = w11.heap.size) := ⟨_, Lib.hid rfl⟩
          rw [← Hgu.out] at hU ⊢
          generalize w11.alloc (.cells #[.int .i64 uk, .int .u32 7, .int .u32 us, .int .u32 un, .int .i64 uf, .slice A11 nd c11] 60) = w12 at *
          have hcU := hU.cell
          have hcP := hP12.cell
          rcases hcs with ⟨hk4, hk5, hN2⟩ | ⟨hk, hsl, hnl, h9, h95, hN2, hlast⟩
          · have g4 : (uk == 4) = false := by simpa using hk4
            have g5 : (uk == 5) = false := by simpa using hk5
            have j4 : (uk != 4) = true := by simpa using hk4
            have j5 : (uk != 5) = true := by simpa using hk5
            go_wp2_with fail
            go_roundg (300 - (i + 1))
            case measure => have := Hq.out; omega
            case rel =>
              have h3 := Hbd.out
              exact ⟨i + 1, _, _, s, k, rfl, rfl, by go_num, h3.1, h3.2.1, h3.2.2, hN2, hT12, hP12, hB12⟩
          · have f1 : decide (us < s) = false := by simp; omega
            have f3 : (9 < un) = False := by simp; omega
            have hTd := hT12.below (Below.refl w12.heap.size w12).drew
            have hBd := hB12.drew
            have hPd := hP12.drew
            have hsee := two_see hTd
            have e1 : uk = 5 → 5 = m.send.1.see.state ∧ false = m.send.1.see.on ∧ m.send.1.see.latched ≠ 0 := fun h => ⟨(hlast h).1.symm, (hlast h).2.1.symm, (hlast h).2.2⟩
            generalize m.send.1.see = em at *
            obtain ⟨st, ses, num, snt, snc, lat, req, on, out⟩ := em
            simp only at e1
            unfold endVal at hsee
            simp only at hsee
            clear hlast
            have f2 : us = s ∧ decide (un ≤ k) = false ∨ (us == s) = false := by
              rcases Classical.em (us = s) with h | h
              · have := hnl h; exact .inl ⟨h, by simp; omega⟩
              · exact .inr (by simpa using h)
            clear hnl hsl h9
            rcases hk with rfl | rfl
            · have hn9 : ¬ un = 9 := fun h => absurd (h95.1 h) (by decide)
              have j9 : (un == 9) = false := by simpa using hn9
              have j9' : (un != 9) = true := by simpa using hn9
              clear e1 h95
              rcases f2 with ⟨rfl, f2⟩ | f2
              · have f4 : (un ≤ k) = False := by simp only [decide_eq_false_iff_not] at f2; simpa using f2
                go_wp2_with fail
                have hUd := hU.drew
                go_region_held3 (fun w' => w'.cell? ⟨gu, 2, none⟩ = some (.int .u32 us) ∧ w'.cell? ⟨gu, 3, none⟩ = some (.int .u32 un)) (exact unitS23 hUd) (first | fail)
                go_wp2_with fail
                refine (hsee.mono ?_)
                rintro e w13 ⟨x13, rfl, hown13, hb13⟩
                obtain ⟨A13, c13, rfl⟩ := own_slice hown13
                have hT13 := hTd.below hb13
                have hB13 := hBd.trans (hb13.mono hBd.size)
                have hP13 := hPd.below hb13 hPd.lt
                have hU13 := hUd.below hb13 hUd.lt
                have hbE := (Below.refl w13.heap.size w13).alloc (Nat.le_refl _) (.cells #[.int .i64 st, .int .u32 ses, .int .u32 num, .int .u32 snt, .int .i64 snc, .int .i64 lat, .bool req, .bool on, .slice A13 out.length c13] 53)
                have hE := Blk.new w13 53 #[.int .i64 st, .int .u32 ses, .int .u32 num, .int .u32 snt, .int .i64 snc, .int .i64 lat, .bool req, .bool on, .slice A13 out.length c13]
                have hT14 := hT13.below hbE
                have hB14 := hB13.trans (hbE.mono hB13.size)
                have hP14 := hP13.below hbE hP13.lt
                have hU14 := hU13.below hbE hU13.lt
                have hcE := hE.cell
                have hcU14 := hU14.cell
                clear hown13 hb13 hbE
                go_wp2_with fail
                go_roundg (300 - (i + 1))
                case measure => have := Hq.out; omega
                case rel =>
                  have h3 := Hbd.out
                  exact ⟨i + 1, _, _, us, un, rfl, rfl, by go_num, h3.1, h3.2.1, h3.2.2, hN2, hT14, hP14, hB14⟩
              · have f4 : (us = s) = False := by simpa using f2
                have f5 : (us < s) = False := by have := f1; simp only [decide_eq_false_iff_not] at this; simpa using this
                go_wp2_with fail
                have hUd := hU.drew
                go_region_held3 (fun w' => w'.cell? ⟨gu, 2, none⟩ = some (.int .u32 us) ∧ w'.cell? ⟨gu, 3, none⟩ = some (.int .u32 un)) (exact unitS23 hUd) (first | fail)
                go_wp2_with fail
                refine (hsee.mono ?_)
                rintro e w13 ⟨x13, rfl, hown13, hb13⟩
                obtain ⟨A13, c13, rfl⟩ := own_slice hown13
                have hT13 := hTd.below hb13
                have hB13 := hBd.trans (hb13.mono hBd.size)
                have hP13 := hPd.below hb13 hPd.lt
                have hU13 := hUd.below hb13 hUd.lt
                have hbE := (Below.refl w13.heap.size w13).alloc (Nat.le_refl _) (.cells #[.int .i64 st, .int .u32 ses, .int .u32 num, .int .u32 snt, .int .i64 snc, .int .i64 lat, .bool req, .bool on, .slice A13 out.length c13] 53)
                have hE := Blk.new w13 53 #[.int .i64 st, .int .u32 ses, .int .u32 num, .int .u32 snt, .int .i64 snc, .int .i64 lat, .bool req, .bool on, .slice A13 out.length c13]
                have hT14 := hT13.below hbE
                have hB14 := hB13.trans (hbE.mono hB13.size)
                have hP14 := hP13.below hbE hP13.lt
                have hU14 := hU13.below hbE hU13.lt
                have hcE := hE.cell
                have hcU14 := hU14.cell
                clear hown13 hb13 hbE
                go_wp2_with fail
                go_roundg (300 - (i + 1))
                case measure => have := Hq.out; omega
                case rel =>
                  have h3 := Hbd.out
                  exact ⟨i + 1, _, _, us, un, rfl, rfl, by go_num, h3.1, h3.2.1, h3.2.2, hN2, hT14, hP14, hB14⟩
            · obtain rfl : un = 9 := h95.2 rfl
              obtain ⟨rfl, rfl, hl0⟩ := e1 rfl
              have jl : (lat == 0) = false := by simpa using hl0
              have jl' : (lat != 0) = true := by simpa using hl0
              clear h95
              rcases f2 with ⟨rfl, f2⟩ | f2
              · have f4 : (9 ≤ k) = False := by simp only [decide_eq_false_iff_not] at f2; simpa using f2
                go_wp2_with fail
                have hUd := hU.drew
                go_region_held3 (fun w' => w'.cell? ⟨gu, 2, none⟩ = some (.int .u32 us) ∧ w'.cell? ⟨gu, 3, none⟩ = some (.int .u32 9)) (exact unitS23 hUd) (first | fail)
                go_wp2_with fail
                refine (hsee.mono ?_)
                rintro e w13 ⟨x13, rfl, hown13, hb13⟩
                obtain ⟨A13, c13, rfl⟩ := own_slice hown13
                have hT13 := hTd.below hb13
                have hB13 := hBd.trans (hb13.mono hBd.size)
                have hP13 := hPd.below hb13 hPd.lt
                have hU13 := hUd.below hb13 hUd.lt
                have hbE := (Below.refl w13.heap.size w13).alloc (Nat.le_refl _) (.cells #[.int .i64 5, .int .u32 ses, .int .u32 num, .int .u32 snt, .int .i64 snc, .int .i64 lat, .bool req, .bool false, .slice A13 out.length c13] 53)
                have hE := Blk.new w13 53 #[.int .i64 5, .int .u32 ses, .int .u32 num, .int .u32 snt, .int .i64 snc, .int .i64 lat, .bool req, .bool false, .slice A13 out.length c13]
                have hT14 := hT13.below hbE
                have hB14 := hB13.trans (hbE.mono hB13.size)
                have hP14 := hP13.below hbE hP13.lt
                have hU14 := hU13.below hbE hU13.lt
                have hcE := hE.cell
                have hcU14 := hU14.cell
                clear hown13 hb13 hbE
                go_wp2_with fail
                go_roundg (300 - (i + 1))
                case measure => have := Hq.out; omega
                case rel =>
                  have h3 := Hbd.out
                  exact ⟨i + 1, _, _, us, 9, rfl, rfl, by go_num, h3.1, h3.2.1, h3.2.2, hN2, hT14, hP14, hB14⟩
              · have f4 : (us = s) = False := by simpa using f2
                have f5 : (us < s) = False := by have := f1; simp only [decide_eq_false_iff_not] at this; simpa using this
                go_wp2_with fail
                have hUd := hU.drew
                go_region_held3 (fun w' => w'.cell? ⟨gu, 2, none⟩ = some (.int .u32 us) ∧ w'.cell? ⟨gu, 3, none⟩ = some (.int .u32 9)) (exact unitS23 hUd) (first | fail)
                go_wp2_with fail
                refine (hsee.mono ?_)
                rintro e w13 ⟨x13, rfl, hown13, hb13⟩
                obtain ⟨A13, c13, rfl⟩ := own_slice hown13
                have hT13 := hTd.below hb13
                have hB13 := hBd.trans (hb13.mono hBd.size)
                have hP13 := hPd.below hb13 hPd.lt
                have hU13 := hUd.below hb13 hUd.lt
                have hbE := (Below.refl w13.heap.size w13).alloc (Nat.le_refl _) (.cells #[.int .i64 5, .int .u32 ses, .int .u32 num, .int .u32 snt, .int .i64 snc, .int .i64 lat, .bool req, .bool false, .slice A13 out.length c13] 53)
                have hE := Blk.new w13 53 #[.int .i64 5, .int .u32 ses, .int .u32 num, .int .u32 snt, .int .i64 snc, .int .i64 lat, .bool req, .bool false, .slice A13 out.length c13]
                have hT14 := hT13.below hbE
                have hB14 := hB13.trans (hbE.mono hB13.size)
                have hP14 := hP13.below hbE hP13.lt
                have hU14 := hU13.below hbE hU13.lt
                have hcE := hE.cell
                have hcU14 := hU14.cell
                clear hown13 hb13 hbE
                go_wp2_with fail
                go_roundg (300 - (i + 1))
                case measure => have := Hq.out; omega
                case rel =>
                  have h3 := Hbd.out
                  exact ⟨i + 1, _, _, us, 9, rfl, rfl, by go_num, h3.1, h3.2.1, h3.2.2, hN2, hT14, hP14, hB14⟩
      · have hN0 : o.kind ≠ 11 → NumInv (stepM m o) s k := fun h => num_step hN o h k12
        have hN1 : o.kind = 11 → NumInv (stepM m o) 0 0 := fun h => num_reset hN o h
        obtain ⟨okind, on_, oflags, oodd, odata, oat, oword⟩ := o
        unfold opVal at hst
        simp only at *
        clear ho hok hrd hdc hdl
        by_cases k11 : okind = 11
        · subst k11
          have hN2 := hN1 rfl
          clear hN0 hN1
          go_wp2_with fail
          refine hst.mono ?_
          rintro e w8 ⟨rfl, hT8, hk8, hb8⟩
          have hB8 := hB.trans (hb8.mono hz3)
          have hP8 := hP.below hb8 hPl
          go_wp2_with fail
          go_roundg (300 - (i + 1))
          case measure => have := Hq.out; omega
          case rel =>
            have := Hq.out
            exact ⟨i + 1, _, _, 0, 0, rfl, rfl, by go_num, by omega, by omega, by omega, hN2, hT8, hP8, hB8⟩
        · have hN2 := hN0 k11
          clear hN0 hN1
          have q1 : (okind == 11) = false := by simpa using k11
          have q2 : (okind == 12) = false := by simpa using k12
          clear k11 k12
          go_wp2_with fail
          refine hst.mono ?_
          rintro e w8 ⟨rfl, hT8, hk8, hb8⟩
          have hB8 := hB.trans (hb8.mono hz3)
          have hP8 := hP.below hb8 hPl
          go_wp2_with fail
          go_roundg (300 - (i + 1))
          case measure => have := Hq.out; omega
          case rel =>
            have := Hq.out
            exact ⟨i + 1, _, _, s, k, rfl, rfl, by go_num, by omega, by omega, by omega, hN2, hT8, hP8, hB8⟩
    · have hd : decide (i < n ∧ i < 300) = false := by simpa using hlt
      obtain ⟨W0, rfl⟩ : ∃ W : World, W = wr := ⟨_, rfl⟩
      clear hops
      go_upto_region 10 with fail
      go_cut [42] from 35 to 163 (fun v42 wc => v42 = .bool (decide (i < n ∧ i < 300)) ∧ wc = W0)
      case first =>
        by_cases h1 : i < n
        · have h2 : ¬ i < 300 := fun h => hlt ⟨h1, h⟩
          go_wp2_with fail
          go_meet
          exact ⟨by have e : ((i : Int) < 300) ↔ (i < 300) := by omega
                    simp [h1, h2, e], rfl⟩
        · go_wp2_with fail
          go_meet
          exact ⟨by simp [h1], rfl⟩
      case rest =>
        obtain ⟨rfl, hwc⟩ := hcut
        subst hwc
        rw [hd]
        clear hlt hd hq
        go_wp2_with fail
        go_ret
        exact ⟨rfl, hB⟩
end Go.Proofs.YtfoldlbnkfnenaaGreat
