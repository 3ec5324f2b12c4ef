/- The walk of HostRises. -/
import Derived.Test.YtfoldlbnkfnenaaGreatCTwoB
import Derived.Test.YtfoldlbnkfnenaaGreatCRiseM
import Derived.Deep.RegionHeld3
namespace Go.Proofs.YtfoldlbnkfnenaaGreat
open Go.RowKit
set_option maxHeartbeats 10000000
set_option maxRecDepth 100000

theorem endS12 {w : World} {g : Nat} {x0 x1 x2 x3 x4 x5 x6 x7 x8 : Value} (h : Blk w g 53 #[x0, x1, x2, x3, x4, x5, x6, x7, x8]) : w.cell? ⟨g, 1, none⟩ = some x1 ∧ w.cell? ⟨g, 2, none⟩ = some x2 := ⟨(h.cell 1).trans rfl, (h.cell 2).trans rfl⟩
theorem cells7_below {w w' : World} {B : Nat} {y : Addr} {x0 x1 x2 x3 x4 x5 x6 : Value} (hb : Below B w w') (ha : y.block < B)
    (h : w.cell? y = some x0 ∧ w.cell? ⟨y.block, y.off + 1, none⟩ = some x1 ∧ w.cell? ⟨y.block, y.off + 2, none⟩ = some x2 ∧ w.cell? ⟨y.block, y.off + 3, none⟩ = some x3 ∧ w.cell? ⟨y.block, y.off + 4, none⟩ = some x4 ∧ w.cell? ⟨y.block, y.off + 5, none⟩ = some x5 ∧ w.cell? ⟨y.block, y.off + 6, none⟩ = some x6) :
    w'.cell? y = some x0 ∧ w'.cell? ⟨y.block, y.off + 1, none⟩ = some x1 ∧ w'.cell? ⟨y.block, y.off + 2, none⟩ = some x2 ∧ w'.cell? ⟨y.block, y.off + 3, none⟩ = some x3 ∧ w'.cell? ⟨y.block, y.off + 4, none⟩ = some x4 ∧ w'.cell? ⟨y.block, y.off + 5, none⟩ = some x5 ∧ w'.cell? ⟨y.block, y.off + 6, none⟩ = some x6 := by
  obtain ⟨h0, h1, h2, h3, h4, h5, h6⟩ := h
  have key : ∀ (q : Addr), q.block = y.block → w'.cell? q = w.cell? q := fun q e => hb.cell (by rw [e]; exact ha)
  exact ⟨(key _ rfl).trans h0, (key ⟨y.block, y.off + 1, none⟩ rfl).trans h1, (key ⟨y.block, y.off + 2, none⟩ rfl).trans h2, (key ⟨y.block, y.off + 3, none⟩ rfl).trans h3, (key ⟨y.block, y.off + 4, none⟩ rfl).trans h4, (key ⟨y.block, y.off + 5, none⟩ rfl).trans h5, (key ⟨y.block, y.off + 6, none⟩ rfl).trans h6⟩
theorem frame_len2 {m : HostM} {o : OpM} (hod : o.data.length ≤ 140737488351232) : ((frameM m o).getD []).length ≤ 140737488351232 := by
  cases h : frameM m o with
  | none => simp
  | some f => exact frameM_len h hod
theorem hostRises_law (A : Option Addr) (n c : Nat) (l : List OpM) (w : World) (hops : OpsAt w w.heap.size A n l) (hn : n ≤ 140737488351232) :
    Calls Tryz.prog 4 #[.slice A n c] w fun e w' => e = .returned (.bool true) ∧ Below w.heap.size w w' := by
  go_enter Tryz.func4, Tryz.ntmps4
  go_wp2_with fail
  refine (lawAwake_any _).mono ?_
  rintro e w1 ⟨rfl, hb1⟩
  go_wp2_with fail
  refine (lawSmall_any _).mono ?_
  rintro e w2 ⟨rfl, hb2⟩
  have hb2' := hb1.trans (hb2.mono hb1.size)
  have hbP := hb2'.alloc hb2'.size (.cells #[.int .u32 7, .int .i64 2, .int .i64 1, .int .i64 10, .int .u32 9] 30)
  have hP := Blk.new w2 30 #[.int .u32 7, .int .i64 2, .int .i64 1, .int .i64 10, .int .u32 9]
  unfold parVal smallM
  simp only
  go_upto_region 4 with fail
  obtain ⟨gP, HgP⟩ : ∃ g, Hid (g = w2.heap.size) := ⟨_, Lib.hid rfl⟩
  rw [← HgP.out] at hP ⊢
  generalize w2.alloc (.cells #[.int .u32 7, .int .i64 2, .int .i64 1, .int .i64 10, .int .u32 9] 30) = w3 at *
  have hcP := hP.cell
  go_wp2_with fail
  refine (hostNew_any smallM w3 small_lawful).mono ?_
  rintro e w4 ⟨a, F1, rfl, hI, hb4⟩
  have hb4' := hbP.trans (hb4.mono hbP.size)
  have hP4 := hP.below hb4 hP.lt
  have hz3 := hbP.size
  clear hcP
  have hcP := hP4.cell
  go_wp2_with fail
  refine (rhNew_any smallM w4 small_ok small_lawful).mono ?_
  rintro e w5 ⟨b, F2, rfl, hR, hb5⟩
  have hT := two_new smallM small_ok small_lawful hI hR hb5
  have hb5' := hb4'.trans (hb5.mono hb4'.size)
  clear hcP hI hR hb4 hb4' hb5 hb2 hb2' hb1 hP4 hP hbP
  go_wp2_with fail
  go_loopg [8, 9, 10] 300 (fun q v8 v9 v10 wr => ∃ (i : Nat) (m : HostM) (T : Nat → Prop) (s k : Int), v8 = .int .u32 s ∧ v9 = .int .u32 k ∧ v10 = .int .i64 i ∧ i + q = 300 ∧ i ≤ n ∧ m.log.length ≤ 2 * i ∧ RiseInv m s k ∧ Two w3.heap.size wr a b m T ∧ Below w.heap.size w wr)
  case atStart => exact ⟨0, _, _, 0, 0, rfl, rfl, rfl, by omega, by omega, by simp [smallH, HostM.new], rise_new, hT, hb5'⟩
  case round =>
    clear hT hb5'
    obtain ⟨i, m, T, s, k, rfl, rfl, rfl, hq, hin, hlg, hR, hT, hB⟩ := hrel
    by_cases hlt : i < n ∧ i < 300
    · obtain ⟨h1, h2⟩ := hlt
      have Hq := Lib.hid hq
      clear hq
      have hmt := hT.lt
      have hseeA := two_see hT
      obtain ⟨ad, o, D, co, rfl, ho, hoc, hok, hrd, hdc, hdl, hadB⟩ := ops_at (hops.below hB) h1
      obtain ⟨C, s2, k2, hk1, hk2, hC, hon, hoff, hA, hNA⟩ := rise_cond hT.good hT.live hR o
      have hl8 := stepM_log m o
      have Hbd := Lib.hid (show i + 1 + (300 - (i + 1)) = 300 ∧ i + 1 ≤ n ∧ (stepM m o).log.length ≤ 2 * (i + 1) from ⟨by have := Hq.out; omega, by omega, by omega⟩)
      have hln : m.log.length < 1073741600 := by omega
      generalize m.see = em at *
      obtain ⟨st, ses, num, snt, snc, lat, req, on, out⟩ := em
      unfold endVal at hseeA
      simp only at hseeA hC hNA
      clear hlg hin hl8 ho
      go_wp2_with fail
      refine hseeA.mono ?_
      rintro e wA ⟨xA, rfl, hownA, hbA⟩
      obtain ⟨AA, cA, rfl⟩ := own_slice hownA
      have hgA := hownA.lt
      have hbW := (Below.refl wA.heap.size wA).alloc (Nat.le_refl _) (.cells #[.int .i64 st, .int .u32 ses, .int .u32 num, .int .u32 snt, .int .i64 snc, .int .i64 lat, .bool req, .bool on, .slice AA out.length cA] 53)
      have hW := Blk.new wA 53 #[.int .i64 st, .int .u32 ses, .int .u32 num, .int .u32 snt, .int .i64 snc, .int .i64 lat, .bool req, .bool on, .slice AA out.length cA]
      have hbAW := hbA.trans (hbW.mono hbA.size)
      have hTB := hT.below hbAW
      have hBB := hB.trans (hbAW.mono hB.size)
      have hownB := own_below hownA hbW
      have hwA := hbA.size
      have hzw := hB.size
      have hrdB := hrd.below (hbAW.mono hzw)
      have hocB := cells7_below (hbAW.mono hzw) (by rw [block_of_add]; exact hadB) hoc
      clear hseeA hownA hT hB hbA hbW hrd hoc hbAW
      go_upto_region 13 with fail
      obtain ⟨gW, HgW⟩ : ∃ g, Hid (g = wA.heap.size) := ⟨_, Lib.hid rfl⟩
      have hTW : ¬ T gW := fun h => by have h1 := hmt _ h; have h2 := HgW.out; omega
      rw [← HgW.out] at hW ⊢
      generalize wA.alloc (.cells _ 53) = wB at *
      have hfr := two_frame hTB o D co w.heap.size hok hrdB hBB.size hdc hdl
      have hst := fun (W : World) (h : Two w3.heap.size W a b m T) (hr : Reads W w.heap.size 1 D o.data.length (u8c o.data)) (hz : w.heap.size ≤ W.heap.size) => two_step h (by omega) o D co hok (hr.more hz) (fun hn ad e => .inl (by obtain ⟨ad', e', hb', _⟩ := hr.2 hn; rw [e] at e'; injection e' with e'; subst e'; omega)) hdc hdl
      have hTBlt := hTB.lt
      have hfl := frame_len2 (m := m) hdl
      have hfr2 : ∀ (v : Value) (W : World), (frameM m o = none → v = .slice none 0 0) → (∀ f, frameM m o = some f → W.ownsRow wB.heap.size 5 1 v f.length (u8c f)) → ∃ Ab cb, v = .slice Ab ((frameM m o).getD []).length cb ∧ W.ownsRow wB.heap.size 5 1 (.slice Ab ((frameM m o).getD []).length cb) ((frameM m o).getD []).length (u8c ((frameM m o).getD [])) := by
        intro v W hn hs
        cases hf : frameM m o with
        | none =>
          rw [hn hf]
          exact ⟨none, 0, rfl, World.ownsRow_nil _ _ _ _⟩
        | some f =>
          have h := hs f hf
          obtain ⟨Ab, cb, rfl⟩ := own_slice h
          exact ⟨Ab, cb, rfl, h⟩
      have hsee2 := fun {w' : World} {T' : Nat → Prop} (h : Two w3.heap.size w' a b (stepM m o) T') => two_see h
      generalize hfm : (frameM m o).isSome = is_ at *
      generalize hfb : (frameM m o).getD [] = fb at *
      have hokr := decode_ok fb
      have hdec := fun (A : Option Addr) (c : Nat) (W : World) (h : Reads W W.heap.size 1 A fb.length (u8c fb)) (hc : fb.length ≤ c) => r4decode_any A fb.length c W.heap.size fb W h (Nat.le_refl _) hc
      generalize decodeM fb = d at *
      obtain ⟨⟨uk, uc, us, un, uf, ud⟩, e2⟩ := d
      generalize (stepM m o).see = em2 at *
      obtain ⟨st2, ses2, num2, snt2, snc2, lat2, req2, on2, out2⟩ := em2
      generalize stepM m o = m2 at *
      obtain ⟨okind, on_, oflags, oodd, odata, oat, oword⟩ := o
      unfold opVal at hfr hst
      unfold unitVal at hdec
      simp only at *
      obtain ⟨p0, p1, p2, p3, p4, p5, p6⟩ := id hocB
      clear hok hdc hdl hokr hR
      go_wp2_with fail
      refine hfr.mono ?_
      rintro e wC ⟨vC, rfl, hnC, hsC, hbC⟩
      obtain ⟨Ab, cb, rfl, hownC⟩ := hfr2 vC wC hnC hsC
      have hzB := hBB.size
      have hTC := hTB.below hbC
      have hBC := hBB.trans (hbC.mono hzB)
      have hocC := cells7_below (hbC.mono hzB) (by rw [block_of_add]; exact hadB) hocB
      have hrdC := hrdB.below (hbC.mono hzB)
      have hWC := hW.below hbC hW.lt
      have hownA := own_below hownB hbC
      have hstC := hst wC hTC hrdC hBC.size
      have hgC := hownC.lt
      clear hfr hfr2 hnC hsC hbC hTB hBB hocB hrdB hW hownB hst p0 p1 p2 p3 p4 p5 p6
      obtain ⟨p0, p1, p2, p3, p4, p5, p6⟩ := id hocC
      go_wp2_with fail
      refine hstC.mono ?_
      rintro e wD ⟨rfl, hTD, hkD, hbD⟩
      have hBD := hBC.trans (hbD.mono hz3)
      have hocD := cells7_below (hbD.mono hz3) (by rw [block_of_add]; exact hadB) hocC
      have hWD := hWC.keep hkD hTW
      have hownCD := ownsRow_keep hownC hkD (fun g hg h => by have h1 := (hgC g hg).1; have h2 := hTBlt _ h; omega)
      have hownAD := ownsRow_keep hownA hkD (fun g hg h => by have h1 := (hgA g hg).1; have h2 := hmt _ h; omega)
      have hsee := hsee2 hTD
      clear hstC hkD hbD hTC hBC hocC hrdC hWC hownC hownA hsee2 p0 p1 p2 p3 p4 p5 p6
      obtain ⟨p0, p1, p2, p3, p4, p5, p6⟩ := hocD
      unfold endVal at hsee
      simp only at hsee
      go_wp2_with fail
      refine hsee.mono ?_
      rintro e wE ⟨xE, rfl, hownE, hbE⟩
      obtain ⟨AE, cE, rfl⟩ := own_slice hownE
      have hbN := (Below.refl wE.heap.size wE).alloc (Nat.le_refl _) (.cells #[.int .i64 st2, .int .u32 ses2, .int .u32 num2, .int .u32 snt2, .int .i64 snc2, .int .i64 lat2, .bool req2, .bool on2, .slice AE out2.length cE] 53)
      have hN := Blk.new wE 53 #[.int .i64 st2, .int .u32 ses2, .int .u32 num2, .int .u32 snt2, .int .i64 snc2, .int .i64 lat2, .bool req2, .bool on2, .slice AE out2.length cE]
      have hbEN := hbE.trans (hbN.mono hbE.size)
      have hTF := hTD.below hbEN
      have hBF := hBD.trans (hbEN.mono hBD.size)
      have hWF := hWD.below hbEN hWD.lt
      have hownBF := own_below hownCD hbEN
      have hownAF := own_below hownAD hbEN
      have hownEF := own_below hownE hbN
      have hzD := hBD.size
      have p0F := (hbEN.mono hzD).cell (show (ad.add (i * 7)).block < w.heap.size by rw [block_of_add]; exact hadB)
      rw [p0] at p0F
      clear hsee hownE hbE hbN hTD hBD hWD hownCD hownAD p0 p1 p2 p3 p4 p5 p6 hbEN
      go_upto_region 17 with fail
      obtain ⟨gN, HgN⟩ : ∃ g, Hid (g = wE.heap.size) := ⟨_, Lib.hid rfl⟩
      rw [← HgN.out] at hN ⊢
      generalize wE.alloc (.cells _ 53) = wF at *
      go_upto_if 72 with (fail)
      go_cut [8, 9] from 36 to 180 (fun v8 v9 wc => v8 = .int .u32 s2 ∧ v9 = .int .u32 k2 ∧ wc = wF)
      case first =>
        by_cases k11 : okind = 11
        · obtain ⟨rfl, rfl⟩ := hk1 k11
          subst k11
          go_wp2_with fail
          go_meet
          exact ⟨rfl, rfl, rfl⟩
        · obtain ⟨rfl, rfl⟩ := hk2 k11
          have q11 : (okind == 11) = false := by simpa using k11
          go_wp2_with fail
          go_meet
          exact ⟨rfl, rfl, rfl⟩
      case rest =>
      obtain ⟨rfl, rfl, hwc⟩ := hcut
      have hw : wF = wc := hwc.symm
      subst hw
      clear hk1 hk2 p0F hwc
      have hcvE := conv_reads (c := cE) (Reads.of_own hownEF)
      have hcN := hN.cell
      generalize out2.length = ol at *
      generalize hA0 : out.length = oa at *
      cases on2 with
      | true =>
        obtain ⟨hst4, hlat0⟩ := hon rfl
        subst hst4 hlat0
        clear hon hoff
        go_wp2_with fail
        refine (hdec Ab cb _ (Reads.of_own hownBF) (own_cap hownBF)).mono ?_
        rintro e wG ⟨vG, rfl, hownG, hbG⟩
        obtain ⟨AG, cG, rfl⟩ := own_slice hownG
        have hbU := (Below.refl wG.heap.size wG).alloc (Nat.le_refl _) (.cells #[.int .i64 uk, .int .u32 uc, .int .u32 us, .int .u32 un, .int .i64 uf, .slice AG ud.length cG] 60)
        have hU := Blk.new wG 60 #[.int .i64 uk, .int .u32 uc, .int .u32 us, .int .u32 un, .int .i64 uf, .slice AG ud.length cG]
        have hbGU := hbG.trans (hbU.mono hbG.size)
        have hTH := hTF.below hbGU
        have hBH := hBF.trans (hbGU.mono hBF.size)
        have hWH := hWF.below hbGU hWF.lt
        have hNH := hN.below hbGU hN.lt
        have hownEH := own_below hownEF hbGU
        have hownAH := own_below hownAF hbGU
        have hownGH := own_below hownG hbU
        clear hdec hownBF hownG hbG hbU hbGU hTF hBF hWF hN hownEF hownAF hcN hcvE
        go_upto_region 22 with fail
        obtain ⟨gu, Hgu⟩ : ∃ x, Hid (x = wG.heap.size) := ⟨_, Lib.hid rfl⟩
        rw [← Hgu.out] at hU ⊢
        generalize wG.alloc (.cells _ 60) = wH at *
        have hcU := hU.cell
        have hcN := hNH.cell
        have hcW := hWH.cell
        cases C with
        | true =>
          obtain ⟨hi, he, hs, hnn⟩ := hC.1 rfl
          obtain ⟨hsl, hnl, hus, hun, hud0, hRA⟩ := hA rfl
          subst hi
          subst he
          have hs' : ses = ses2 := hs.symm
          subst hs'
          subst hus
          subst hun
          have hud := hud0 (by simp)
          clear hA hNA hC hud0
          have f1 : (us < s2) = False := by simp; omega
          have f2 : us = s2 ∧ ¬ (un ≤ k2) ∨ ¬ us = s2 := by
            rcases Classical.em (us = s2) with h | h
            · have := hnl h; exact .inl ⟨h, by omega⟩
            · exact .inr h
          clear hnl hsl
          rcases f2 with ⟨h2, f2⟩ | f2
          · subst h2
            have f4 : (un ≤ k2) = False := by simpa using f2
            have f6 : (un ≤ num) = False := by simp; omega
            have f7 : (num < un) = True := by simp; omega
            have f8 : decide (num < un) = true := by simp; omega
            go_wp2_with fail
            have hNd := hNH.drew
            go_region_held3 (fun w' => w'.cell? ⟨gN, 1, none⟩ = some (.int .u32 us) ∧ w'.cell? ⟨gN, 2, none⟩ = some (.int .u32 un)) (exact endS12 hNd) (first | fail)
            have hcE := conv_reads (c := cE) (Reads.of_own (own_below hownEH (Below.refl wH.heap.size wH).drew))
            have hcG := conv_reads (c := cG) (Reads.of_own (own_below hownGH (Below.refl wH.heap.size wH).drew))
            rw [hud] at hcE
            have hUd := hU.drew
            clear hcU hcN hcW
            have hcU := hUd.cell
            have hcN := hNd.cell
            have hTd := hTH.below (Below.refl wH.heap.size wH).drew
            have hBd := hBH.drew
            go_wp2_with fail
            go_roundg (300 - (i + 1))
            case measure => have := Hq.out; omega
            case rel =>
              have h3 := Hbd.out
              exact ⟨i + 1, m2, _, us, un, rfl, rfl, by go_num, h3.1, h3.2.1, h3.2.2, hRA, hTd, hBd⟩
          · have f4 : (us = s2) = False := by simpa using f2
            have f5 : (us == s2) = false := by simpa using f2
            have f6 : (un ≤ num) = False := by simp; omega
            have f7 : (num < un) = True := by simp; omega
            have f8 : decide (num < un) = true := by simp; omega
            go_wp2_with fail
            have hNd := hNH.drew
            go_region_held3 (fun w' => w'.cell? ⟨gN, 1, none⟩ = some (.int .u32 us) ∧ w'.cell? ⟨gN, 2, none⟩ = some (.int .u32 un)) (exact endS12 hNd) (first | fail)
            have hcE := conv_reads (c := cE) (Reads.of_own (own_below hownEH (Below.refl wH.heap.size wH).drew))
            have hcG := conv_reads (c := cG) (Reads.of_own (own_below hownGH (Below.refl wH.heap.size wH).drew))
            rw [hud] at hcE
            have hUd := hU.drew
            clear hcU hcN hcW
            have hcU := hUd.cell
            have hcN := hNd.cell
            have hTd := hTH.below (Below.refl wH.heap.size wH).drew
            have hBd := hBH.drew
            go_wp2_with fail
            go_roundg (300 - (i + 1))
            case measure => have := Hq.out; omega
            case rel =>
              have h3 := Hbd.out
              exact ⟨i + 1, m2, _, us, un, rfl, rfl, by go_num, h3.1, h3.2.1, h3.2.2, hRA, hTd, hBd⟩
        | false =>
          obtain ⟨hoo0, hRB⟩ := hNA rfl
          obtain ⟨hwon, hoo⟩ := hoo0 (by simp)
          subst hwon
          clear hA hNA hoo0
          have hC' : ¬ (is_ = true ∧ e2 = 0 ∧ ses2 = ses ∧ num < num2) := fun h => by have := hC.2 h; cases this
          clear hC
          rcases Bool.eq_false_or_eq_true is_ with hi | hi
          · by_cases he : e2 = 0
            · by_cases hs : ses2 = ses
              · have hnn : ¬ num < num2 := fun h => hC' ⟨hi, he, hs, h⟩
                clear hC'
                subst hi
                subst he
                have hs' : ses = ses2 := hs.symm
                subst hs'
                have q4 : (num < num2) = False := by simpa using hnn
                have j4 : (num2 ≤ num) = True := by simp; omega
                have hcE := conv_reads (c := cE) (Reads.of_own hownEH)
                have hcA := conv_reads (c := cA) (Reads.of_own hownAH)
                rw [hoo] at hcA
                go_wp2_with fail
                go_roundg (300 - (i + 1))
                case measure => have := Hq.out; omega
                case rel =>
                  have h3 := Hbd.out
                  exact ⟨i + 1, m2, _, s2, k2, rfl, rfl, by go_num, h3.1, h3.2.1, h3.2.2, hRB, hTH, hBH⟩
              · clear hC'
                subst hi
                subst he
                have q3 : (ses2 == ses) = false := by simpa using hs
                have j3 : (ses2 = ses) = False := by simpa using hs
                have hcE := conv_reads (c := cE) (Reads.of_own hownEH)
                have hcA := conv_reads (c := cA) (Reads.of_own hownAH)
                rw [hoo] at hcA
                go_wp2_with fail
                go_roundg (300 - (i + 1))
                case measure => have := Hq.out; omega
                case rel =>
                  have h3 := Hbd.out
                  exact ⟨i + 1, m2, _, s2, k2, rfl, rfl, by go_num, h3.1, h3.2.1, h3.2.2, hRB, hTH, hBH⟩
            · clear hC'
              subst hi
              have q2 : (e2 == 0) = false := by simpa using he
              have j2 : (e2 = 0) = False := by simpa using he
              have hcE := conv_reads (c := cE) (Reads.of_own hownEH)
              have hcA := conv_reads (c := cA) (Reads.of_own hownAH)
              rw [hoo] at hcA
              go_wp2_with fail
              go_roundg (300 - (i + 1))
              case measure => have := Hq.out; omega
              case rel =>
                have h3 := Hbd.out
                exact ⟨i + 1, m2, _, s2, k2, rfl, rfl, by go_num, h3.1, h3.2.1, h3.2.2, hRB, hTH, hBH⟩
          · clear hC'
            subst hi
            have hcE := conv_reads (c := cE) (Reads.of_own hownEH)
            have hcA := conv_reads (c := cA) (Reads.of_own hownAH)
            rw [hoo] at hcA
            go_wp2_with fail
            go_roundg (300 - (i + 1))
            case measure => have := Hq.out; omega
            case rel =>
              have h3 := Hbd.out
              exact ⟨i + 1, m2, _, s2, k2, rfl, rfl, by go_num, h3.1, h3.2.1, h3.2.2, hRB, hTH, hBH⟩
      | false =>
        have hout := hoff rfl
        subst hout
        clear hon hoff
        go_wp2_with fail
        refine (hdec Ab cb _ (Reads.of_own hownBF) (own_cap hownBF)).mono ?_
        rintro e wG ⟨vG, rfl, hownG, hbG⟩
        obtain ⟨AG, cG, rfl⟩ := own_slice hownG
        have hbU := (Below.refl wG.heap.size wG).alloc (Nat.le_refl _) (.cells #[.int .i64 uk, .int .u32 uc, .int .u32 us, .int .u32 un, .int .i64 uf, .slice AG ud.length cG] 60)
        have hU := Blk.new wG 60 #[.int .i64 uk, .int .u32 uc, .int .u32 us, .int .u32 un, .int .i64 uf, .slice AG ud.length cG]
        have hbGU := hbG.trans (hbU.mono hbG.size)
        have hTH := hTF.below hbGU
        have hBH := hBF.trans (hbGU.mono hBF.size)
        have hWH := hWF.below hbGU hWF.lt
        have hNH := hN.below hbGU hN.lt
        have hownEH := own_below hownEF hbGU
        have hownAH := own_below hownAF hbGU
        have hownGH := own_below hownG hbU
        clear hdec hownBF hownG hbG hbU hbGU hTF hBF hWF hN hownEF hownAF hcN hcvE
        go_upto_region 22 with fail
        obtain ⟨gu, Hgu⟩ : ∃ x, Hid (x = wG.heap.size) := ⟨_, Lib.hid rfl⟩
        rw [← Hgu.out] at hU ⊢
        generalize wG.alloc (.cells _ 60) = wH at *
        have hcU := hU.cell
        have hcN := hNH.cell
        have hcW := hWH.cell
        cases C with
        | true =>
          obtain ⟨hi, he, hs, hnn⟩ := hC.1 rfl
          obtain ⟨hsl, hnl, hus, hun, hud0, hRA⟩ := hA rfl
          subst hi
          subst he
          have hs' : ses = ses2 := hs.symm
          subst hs'
          subst hus
          subst hun
          clear hA hNA hC hud0
          have f1 : (us < s2) = False := by simp; omega
          have f2 : us = s2 ∧ ¬ (un ≤ k2) ∨ ¬ us = s2 := by
            rcases Classical.em (us = s2) with h | h
            · have := hnl h; exact .inl ⟨h, by omega⟩
            · exact .inr h
          clear hnl hsl
          rcases f2 with ⟨h2, f2⟩ | f2
          · subst h2
            have f4 : (un ≤ k2) = False := by simpa using f2
            have f6 : (un ≤ num) = False := by simp; omega
            have f7 : (num < un) = True := by simp; omega
            have f8 : decide (num < un) = true := by simp; omega
            go_wp2_with fail
            have hNd := hNH.drew
            go_region_held3 (fun w' => w'.cell? ⟨gN, 1, none⟩ = some (.int .u32 us) ∧ w'.cell? ⟨gN, 2, none⟩ = some (.int .u32 un)) (exact endS12 hNd) (first | fail)
            have hUd := hU.drew
            clear hcU hcN hcW
            have hcU := hUd.cell
            have hcN := hNd.cell
            have hTd := hTH.below (Below.refl wH.heap.size wH).drew
            have hBd := hBH.drew
            go_wp2_with fail
            go_roundg (300 - (i + 1))
            case measure => have := Hq.out; omega
            case rel =>
              have h3 := Hbd.out
              exact ⟨i + 1, m2, _, us, un, rfl, rfl, by go_num, h3.1, h3.2.1, h3.2.2, hRA, hTd, hBd⟩
          · have f4 : (us = s2) = False := by simpa using f2
            have f5 : (us == s2) = false := by simpa using f2
            have f6 : (un ≤ num) = False := by simp; omega
            have f7 : (num < un) = True := by simp; omega
            have f8 : decide (num < un) = true := by simp; omega
            go_wp2_with fail
            have hNd := hNH.drew
            go_region_held3 (fun w' => w'.cell? ⟨gN, 1, none⟩ = some (.int .u32 us) ∧ w'.cell? ⟨gN, 2, none⟩ = some (.int .u32 un)) (exact endS12 hNd) (first | fail)
            have hUd := hU.drew
            clear hcU hcN hcW
            have hcU := hUd.cell
            have hcN := hNd.cell
            have hTd := hTH.below (Below.refl wH.heap.size wH).drew
            have hBd := hBH.drew
            go_wp2_with fail
            go_roundg (300 - (i + 1))
            case measure => have := Hq.out; omega
            case rel =>
              have h3 := Hbd.out
              exact ⟨i + 1, m2, _, us, un, rfl, rfl, by go_num, h3.1, h3.2.1, h3.2.2, hRA, hTd, hBd⟩
        | false =>
          obtain ⟨hoo0, hRB⟩ := hNA rfl
          clear hA hNA hoo0
          have hC' : ¬ (is_ = true ∧ e2 = 0 ∧ ses2 = ses ∧ num < num2) := fun h => by have := hC.2 h; cases this
          clear hC
          rcases Bool.eq_false_or_eq_true is_ with hi | hi
          · by_cases he : e2 = 0
            · by_cases hs : ses2 = ses
              · have hnn : ¬ num < num2 := fun h => hC' ⟨hi, he, hs, h⟩
                clear hC'
                subst hi
                subst he
                have hs' : ses = ses2 := hs.symm
                subst hs'
                have q4 : (num < num2) = False := by simpa using hnn
                have j4 : (num2 ≤ num) = True := by simp; omega
                go_wp2_with fail
                go_roundg (300 - (i + 1))
                case measure => have := Hq.out; omega
                case rel =>
                  have h3 := Hbd.out
                  exact ⟨i + 1, m2, _, s2, k2, rfl, rfl, by go_num, h3.1, h3.2.1, h3.2.2, hRB, hTH, hBH⟩
              · clear hC'
                subst hi
                subst he
                have q3 : (ses2 == ses) = false := by simpa using hs
                have j3 : (ses2 = ses) = False := by simpa using hs
                go_wp2_with fail
                go_roundg (300 - (i + 1))
                case measure => have := Hq.out; omega
                case rel =>
                  have h3 := Hbd.out
                  exact ⟨i + 1, m2, _, s2, k2, rfl, rfl, by go_num, h3.1, h3.2.1, h3.2.2, hRB, hTH, hBH⟩
            · clear hC'
              subst hi
              have q2 : (e2 == 0) = false := by simpa using he
              have j2 : (e2 = 0) = False := by simpa using he
              go_wp2_with fail
              go_roundg (300 - (i + 1))
              case measure => have := Hq.out; omega
              case rel =>
                have h3 := Hbd.out
                exact ⟨i + 1, m2, _, s2, k2, rfl, rfl, by go_num, h3.1, h3.2.1, h3.2.2, hRB, hTH, hBH⟩
          · clear hC'
            subst hi
            go_wp2_with fail
            go_roundg (300 - (i + 1))
            case measure => have := Hq.out; omega
            case rel =>
              have h3 := Hbd.out
              exact ⟨i + 1, m2, _, s2, k2, rfl, rfl, by go_num, h3.1, h3.2.1, h3.2.2, hRB, hTH, hBH⟩
    · have hd : decide (i < n ∧ i < 300) = false := by simpa using hlt
      obtain ⟨W0, rfl⟩ : ∃ W : World, W = wr := ⟨_, rfl⟩
      clear hops
      go_upto_region 10 with fail
      go_cut [43] from 36 to 180 (fun v43 wc => v43 = .bool (decide (i < n ∧ i < 300)) ∧ wc = W0)
      case first =>
        by_cases h1 : i < n
        · have h2 : ¬ i < 300 := fun h => hlt ⟨h1, h⟩
          go_wp2_with fail
          go_meet
          exact ⟨by have e : ((i : Int) < 300) ↔ (i < 300) := by omega
                    simp [h1, h2, e], rfl⟩
        · go_wp2_with fail
          go_meet
          exact ⟨by simp [h1], rfl⟩
      case rest =>
        obtain ⟨rfl, hwc⟩ := hcut
        subst hwc
        rw [hd]
        clear hlt hd hq
        go_wp2_with fail
        go_ret
        exact ⟨rfl, hB⟩
end Go.Proofs.YtfoldlbnkfnenaaGreat
