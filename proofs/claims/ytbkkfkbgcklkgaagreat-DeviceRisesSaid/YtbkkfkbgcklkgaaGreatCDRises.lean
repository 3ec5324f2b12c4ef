/- The walk of DeviceRises. -/
import Derived.Test.YtbkkfkbgcklkgaaGreatCDLaw
import Derived.Test.YtbkkfkbgcklkgaaGreatCDRiseM
import Derived.Deep.RegionHeld3
import Derived.Deep.RegionHeld
namespace Go.Proofs.YtbkkfkbgcklkgaaGreat
open Go.RowKit
set_option maxHeartbeats 10000000
set_option maxRecDepth 100000

theorem endSD12 {w : World} {g : Nat} {x0 x1 x2 x3 x4 x5 x6 x7 x8 : Value} (h : Blk w g 52 #[x0, x1, x2, x3, x4, x5, x6, x7, x8]) : w.cell? ⟨g, 1, none⟩ = some x1 ∧ w.cell? ⟨g, 2, none⟩ = some x2 := ⟨(h.cell 1).trans rfl, (h.cell 2).trans rfl⟩
theorem cells7_below {w w' : World} {B : Nat} {y : Addr} {x0 x1 x2 x3 x4 x5 x6 : Value} (hb : Below B w w') (ha : y.block < B)
    (h : w.cell? y = some x0 ∧ w.cell? ⟨y.block, y.off + 1, none⟩ = some x1 ∧ w.cell? ⟨y.block, y.off + 2, none⟩ = some x2 ∧ w.cell? ⟨y.block, y.off + 3, none⟩ = some x3 ∧ w.cell? ⟨y.block, y.off + 4, none⟩ = some x4 ∧ w.cell? ⟨y.block, y.off + 5, none⟩ = some x5 ∧ w.cell? ⟨y.block, y.off + 6, none⟩ = some x6) :
    w'.cell? y = some x0 ∧ w'.cell? ⟨y.block, y.off + 1, none⟩ = some x1 ∧ w'.cell? ⟨y.block, y.off + 2, none⟩ = some x2 ∧ w'.cell? ⟨y.block, y.off + 3, none⟩ = some x3 ∧ w'.cell? ⟨y.block, y.off + 4, none⟩ = some x4 ∧ w'.cell? ⟨y.block, y.off + 5, none⟩ = some x5 ∧ w'.cell? ⟨y.block, y.off + 6, none⟩ = some x6 := by
  obtain ⟨h0, h1, h2, h3, h4, h5, h6⟩ := h
  have key : ∀ (q : Addr), q.block = y.block → w'.cell? q = w.cell? q := fun q e => hb.cell (by rw [e]; exact ha)
  exact ⟨(key _ rfl).trans h0, (key ⟨y.block, y.off + 1, none⟩ rfl).trans h1, (key ⟨y.block, y.off + 2, none⟩ rfl).trans h2, (key ⟨y.block, y.off + 3, none⟩ rfl).trans h3, (key ⟨y.block, y.off + 4, none⟩ rfl).trans h4, (key ⟨y.block, y.off + 5, none⟩ rfl).trans h5, (key ⟨y.block, y.off + 6, none⟩ rfl).trans h6⟩
theorem frame_len2D {m : DevM} {o : OpM} (hod : o.data.length ≤ 140737488351232) : ((frameD m o).getD []).length ≤ 140737488351232 := by
  cases h : frameD m o with
  | none => simp
  | some f => exact frameD_len h hod
theorem deviceRises_law (mx : Int) (A : Option Addr) (n c : Nat) (l : List OpM) (w : World) (hmx : 0 ≤ mx ∧ mx < 4294967296) (hops : OpsAt w w.heap.size A n l) (hn : n ≤ 140737488351232) :
    Calls Tryz.prog 6 #[.int .u32 mx, .slice A n c] w fun e w' => e = .returned (.bool true) ∧ Below w.heap.size w w' := by
  go_enter Tryz.func6, Tryz.ntmps6
  go_wp2_with fail
  refine (lawAwakeD_any _).mono ?_
  rintro e wA0 ⟨rfl, hbA0⟩
  by_cases hm0 : mx = 0
  · subst hm0
    go_wp2_with fail
    go_ret
    exact ⟨rfl, hbA0⟩
  have gm0 : (mx == 0) = false := by simpa using hm0
  have hpos : 0 < mx := by omega
  go_wp2_with fail
  refine (lawSmall_any _).mono ?_
  rintro e w0 ⟨rfl, hb0⟩
  have hb0' := hbA0.trans (hb0.mono hbA0.size)
  have hb1' := hb0'.alloc hb0'.size (.cells #[.int .u32 7, .int .i64 2, .int .i64 1, .int .i64 10, .int .u32 9] 35)
  have hP := Blk.new w0 35 #[.int .u32 7, .int .i64 2, .int .i64 1, .int .i64 10, .int .u32 9]
  unfold parVal smallM
  simp only
  go_upto_region 6 with fail
  obtain ⟨gP, HgP⟩ : ∃ g, Hid (g = w0.heap.size) := ⟨_, Lib.hid rfl⟩
  rw [← HgP.out] at hP ⊢
  generalize w0.alloc (.cells #[.int .u32 7, .int .i64 2, .int .i64 1, .int .i64 10, .int .u32 9] 35) = w1 at *
  have hcP := hP.cell
  clear hb0 hb0' hbA0
  go_wp2_with fail
  refine (memNew16_any w1).mono ?_
  rintro e w2 ⟨ma, rfl, hM2, hb2⟩
  have hz1 := hb1'.size
  have hb2' := hb1'.trans (hb2.mono hz1)
  go_wp2_with fail
  refine (rmemNew16_any w2).mono ?_
  rintro e w3 ⟨mb, rfl, hM3, hb3⟩
  have hb3' := hb2'.trans (hb3.mono hb2'.size)
  obtain ⟨F1, F2, hMs⟩ := mems_new hM2 hb2 hM3 hb3
  have hz3 : w1.heap.size ≤ w3.heap.size := Nat.le_trans hb2.size hb3.size
  have hq3 := hb2.trans (hb3.mono hb2.size)
  clear hM2 hM3 hb2 hb3 hb2'
  have hMs4 := hMs
  have hz4 := hz3
  have hq4 := hq3
  have hP4 := hP.below (hq4) hP.lt
  clear hcP
  have hcP := hP4.cell
  clear hMs hb3' hq3
  go_wp2_with fail
  refine (devFirst_any ma F1 w1.heap.size mx w3 hMs4.m1 hMs4.lo1 hz4 ⟨hpos, hmx.2⟩).mono ?_
  rintro e w5 ⟨a, F3, rfl, hI5, hk5, hs5⟩
  obtain ⟨hM5, hlo5, hdj5⟩ := hMs4.dev hk5 hs5
  have hq5 : Below w1.heap.size w1 w5 := hq4.trans (hk5.below hz4 (fun x hx => (hMs4.lo1 x hx).1))
  have hP5 := hP.below hq5 hP.lt
  clear hMs4 hk5 hs5 hq4 hcP
  have hcP := hP5.cell
  have hI6 := hI5
  have hM6 := hM5
  have hlo6 := hlo5
  have hq6 := hq5
  have hz6 := hq6.size
  clear hI5 hM5 hlo5 hq5
  go_wp2_with fail
  refine (rdFirst_any mb F2 w1.heap.size mx w5 hM6 hlo6 (hpos)).mono ?_
  rintro e w7 ⟨b, rfl, hR7, hk7⟩
  have hT := two_newD (first_inv mx ⟨hpos, hmx.2⟩) hI6 hdj5 hR7 hk7
  have hq7 : Below w1.heap.size w1 w7 := hq6.trans (hk7.below hz6 (fun x hx => (hlo6 x hx).1))
  have hb7' := hb1'.trans (hq7.mono hz1)
  clear hM6 hlo6 hI6 hdj5 hR7 hk7 hq6
  clear hcP hP5 hP hP4
  go_wp2_with fail
  go_loopg [14, 15, 16] 300 (fun q v8 v9 v10 wr => ∃ (i : Nat) (m : DevM) (T : Nat → Prop) (s k : Int), v8 = .int .u32 s ∧ v9 = .int .u32 k ∧ v10 = .int .i64 i ∧ i + q = 300 ∧ i ≤ n ∧ m.log.length ≤ 4 * i ∧ (∃ V, DInv mx V m ∧ RiseD V s k m) ∧ TwoD w1.heap.size wr a ma b mb m T ∧ Below w.heap.size w wr)
  case atStart => exact ⟨0, _, _, 0, 0, rfl, rfl, rfl, by omega, by omega, by simp [DevM.first], ⟨0, dinv_first hpos hmx.2, ⟨by omega, by omega, fun h => by omega⟩⟩, hT, hb7'⟩
  case round =>
    clear hT hb7' hq7
    obtain ⟨i, m, T, s, k, rfl, rfl, rfl, hq, hin, hlg, ⟨V, hDI, hRD⟩, hT, hB⟩ := hrel
    by_cases hlt : i < n ∧ i < 300
    · obtain ⟨h1, h2⟩ := hlt
      have Hq := Lib.hid hq
      clear hq
      have hmt := hT.lt
      have hseeA := two_seeD hT
      obtain ⟨ad, o, D, co, rfl, ho, hoc, hok, hrd, hdc, hdl, hadB⟩ := ops_at (hops.below hB) h1
      obtain ⟨C, hC, hon, hoff, hA, hNA⟩ := rise_condD hDI hRD o
      have hl8 := stepD_log m o
      have Hbd := Lib.hid (show i + 1 + (300 - (i + 1)) = 300 ∧ i + 1 ≤ n ∧ (stepD m o).log.length ≤ 4 * (i + 1) from ⟨by have := Hq.out; omega, by omega, by omega⟩)
      have hln : m.log.length < 1073741600 := by omega
      generalize m.see = em at *
      obtain ⟨st, ses, num, snt, snc, lat, req, on, out⟩ := em
      unfold endVal at hseeA
      simp only at hseeA hC hNA
      clear hlg hin hl8 ho
      go_wp2_with fail
      refine hseeA.mono ?_
      rintro e wA ⟨xA, rfl, hownA, hbA⟩
      obtain ⟨AA, cA, rfl⟩ := own_slice hownA
      have hgA := hownA.lt
      have hbW := (Below.refl wA.heap.size wA).alloc (Nat.le_refl _) (.cells #[.int .i64 st, .int .u32 ses, .int .u32 num, .int .u32 snt, .int .i64 snc, .int .i64 lat, .bool req, .bool on, .slice AA out.length cA] 52)
      have hW := Blk.new wA 52 #[.int .i64 st, .int .u32 ses, .int .u32 num, .int .u32 snt, .int .i64 snc, .int .i64 lat, .bool req, .bool on, .slice AA out.length cA]
      have hbAW := hbA.trans (hbW.mono hbA.size)
      have hTB := hT.below hbAW
      have hBB := hB.trans (hbAW.mono hB.size)
      have hownB := own_below hownA hbW
      have hwA := hbA.size
      have hzw := hB.size
      have hrdB := hrd.below (hbAW.mono hzw)
      have hocB := cells7_below (hbAW.mono hzw) (by rw [block_of_add]; exact hadB) hoc
      clear hseeA hownA hT hB hbA hbW hrd hoc hbAW
      go_upto_region 17 with fail
      obtain ⟨gW, HgW⟩ : ∃ g, Hid (g = wA.heap.size) := ⟨_, Lib.hid rfl⟩
      have hTW : ¬ T gW := fun h => by have h1 := hmt _ h; have h2 := HgW.out; omega
      rw [← HgW.out] at hW ⊢
      generalize wA.alloc (.cells _ 52) = wB at *
      have hfr := two_frameD hTB o D co w.heap.size hok hrdB hBB.size hdc hdl
      have hst := fun (W : World) (h : TwoD w1.heap.size W a ma b mb m T) (hr : Reads W w.heap.size 1 D o.data.length (u8c o.data)) (hz : w.heap.size ≤ W.heap.size) => two_stepD h (by omega) o D co hok (hr.more hz) (fun hn ad e => .inl (by obtain ⟨ad', e', hb', _⟩ := hr.2 hn; rw [e] at e'; injection e' with e'; subst e'; omega)) hdc hdl
      have hTBlt := hTB.lt
      have hfl := frame_len2D (m := m) hdl
      have hfr2 : ∀ (v : Value) (W : World), (frameD m o = none → v = .slice none 0 0) → (∀ f, frameD m o = some f → W.ownsRow wB.heap.size 5 1 v f.length (u8c f)) → ∃ Ab cb, v = .slice Ab ((frameD m o).getD []).length cb ∧ W.ownsRow wB.heap.size 5 1 (.slice Ab ((frameD m o).getD []).length cb) ((frameD m o).getD []).length (u8c ((frameD m o).getD [])) := by
        intro v W hn hs
        cases hf : frameD m o with
        | none =>
          rw [hn hf]
          exact ⟨none, 0, rfl, World.ownsRow_nil _ _ _ _⟩
        | some f =>
          have h := hs f hf
          obtain ⟨Ab, cb, rfl⟩ := own_slice h
          exact ⟨Ab, cb, rfl, h⟩
      have hsee2 := fun {w' : World} {T' : Nat → Prop} (h : TwoD w1.heap.size w' a ma b mb (stepD m o) T') => two_seeD h
      generalize hfm : (frameD m o).isSome = is_ at *
      generalize hfb : (frameD m o).getD [] = fb at *
      have hokr := decode_ok fb
      have hdec := fun (A : Option Addr) (c : Nat) (W : World) (h : Reads W W.heap.size 1 A fb.length (u8c fb)) (hc : fb.length ≤ c) => r4decode_any A fb.length c W.heap.size fb W h (Nat.le_refl _) hc
      generalize decodeM fb = d at *
      obtain ⟨⟨uk, uc, us, un, uf, ud⟩, e2⟩ := d
      generalize (stepD m o).see = em2 at *
      obtain ⟨st2, ses2, num2, snt2, snc2, lat2, req2, on2, out2⟩ := em2
      generalize stepD m o = m2 at *
      obtain ⟨okind, on_, oflags, oodd, odata, oat, oword⟩ := o
      unfold opVal at hfr hst
      unfold unitVal at hdec
      simp only at *
      obtain ⟨p0, p1, p2, p3, p4, p5, p6⟩ := id hocB
      clear hok hdc hdl hokr hDI hRD
      go_wp2_with fail
      refine hfr.mono ?_
      rintro e wC ⟨vC, rfl, hnC, hsC, hbC⟩
      obtain ⟨Ab, cb, rfl, hownC⟩ := hfr2 vC wC hnC hsC
      have hzB := hBB.size
      have hTC := hTB.below hbC
      have hBC := hBB.trans (hbC.mono hzB)
      have hocC := cells7_below (hbC.mono hzB) (by rw [block_of_add]; exact hadB) hocB
      have hrdC := hrdB.below (hbC.mono hzB)
      have hWC := hW.below hbC hW.lt
      have hownA := own_below hownB hbC
      have hstC := hst wC hTC hrdC hBC.size
      have hgC := hownC.lt
      clear hfr hfr2 hnC hsC hbC hTB hBB hocB hrdB hW hownB hst p0 p1 p2 p3 p4 p5 p6
      obtain ⟨p0, p1, p2, p3, p4, p5, p6⟩ := id hocC
      go_wp2_with fail
      refine hstC.mono ?_
      rintro e wD ⟨rfl, hTD, hkD, hbD⟩
      have hBD := hBC.trans (hbD.mono hz1)
      have hocD := cells7_below (hbD.mono hz1) (by rw [block_of_add]; exact hadB) hocC
      have hWD := hWC.keep hkD hTW
      have hownCD := ownsRow_keep hownC hkD (fun g hg h => by have h1 := (hgC g hg).1; have h2 := hTBlt _ h; omega)
      have hownAD := ownsRow_keep hownA hkD (fun g hg h => by have h1 := (hgA g hg).1; have h2 := hmt _ h; omega)
      have hsee := hsee2 hTD
      clear hstC hkD hbD hTC hBC hocC hrdC hWC hownC hownA hsee2 p0 p1 p2 p3 p4 p5 p6
      obtain ⟨p0, p1, p2, p3, p4, p5, p6⟩ := hocD
      unfold endVal at hsee
      simp only at hsee
      go_wp2_with fail
      refine hsee.mono ?_
      rintro e wE ⟨xE, rfl, hownE, hbE⟩
      obtain ⟨AE, cE, rfl⟩ := own_slice hownE
      have hbN := (Below.refl wE.heap.size wE).alloc (Nat.le_refl _) (.cells #[.int .i64 st2, .int .u32 ses2, .int .u32 num2, .int .u32 snt2, .int .i64 snc2, .int .i64 lat2, .bool req2, .bool on2, .slice AE out2.length cE] 52)
      have hN := Blk.new wE 52 #[.int .i64 st2, .int .u32 ses2, .int .u32 num2, .int .u32 snt2, .int .i64 snc2, .int .i64 lat2, .bool req2, .bool on2, .slice AE out2.length cE]
      have hbEN := hbE.trans (hbN.mono hbE.size)
      have hTF := hTD.below hbEN
      have hBF := hBD.trans (hbEN.mono hBD.size)
      have hWF := hWD.below hbEN hWD.lt
      have hownBF := own_below hownCD hbEN
      have hownAF := own_below hownAD hbEN
      have hownEF := own_below hownE hbN
      have hzD := hBD.size
      have p0F := (hbEN.mono hzD).cell (show (ad.add (i * 7)).block < w.heap.size by rw [block_of_add]; exact hadB)
      rw [p0] at p0F
      clear hsee hownE hbE hbN hTD hBD hWD hownCD hownAD p0 p1 p2 p3 p4 p5 p6 hbEN
      go_upto_region 21 with fail
      obtain ⟨gN, HgN⟩ : ∃ g, Hid (g = wE.heap.size) := ⟨_, Lib.hid rfl⟩
      rw [← HgN.out] at hN ⊢
      generalize wE.alloc (.cells _ 52) = wF at *
      clear p0F
      have hcvE := conv_reads (c := cE) (Reads.of_own hownEF)
      have hcN := hN.cell
      generalize out2.length = ol at *
      generalize hA0 : out.length = oa at *
      cases on2 with
      | true =>
        obtain ⟨hst4, hlat0⟩ := hon rfl
        subst hst4 hlat0
        clear hon hoff
        go_wp2_with fail
        refine (hdec Ab cb _ (Reads.of_own hownBF) (own_cap hownBF)).mono ?_
        rintro e wG ⟨vG, rfl, hownG, hbG⟩
        obtain ⟨AG, cG, rfl⟩ := own_slice hownG
        have hbU := (Below.refl wG.heap.size wG).alloc (Nat.le_refl _) (.cells #[.int .i64 uk, .int .u32 uc, .int .u32 us, .int .u32 un, .int .i64 uf, .slice AG ud.length cG] 68)
        have hU := Blk.new wG 68 #[.int .i64 uk, .int .u32 uc, .int .u32 us, .int .u32 un, .int .i64 uf, .slice AG ud.length cG]
        have hbGU := hbG.trans (hbU.mono hbG.size)
        have hTH := hTF.below hbGU
        have hBH := hBF.trans (hbGU.mono hBF.size)
        have hWH := hWF.below hbGU hWF.lt
        have hNH := hN.below hbGU hN.lt
        have hownEH := own_below hownEF hbGU
        have hownAH := own_below hownAF hbGU
        have hownGH := own_below hownG hbU
        clear hdec hownBF hownG hbG hbU hbGU hTF hBF hWF hN hownEF hownAF hcN hcvE
        go_upto_region 24 with fail
        obtain ⟨gu, Hgu⟩ : ∃ x, Hid (x = wG.heap.size) := ⟨_, Lib.hid rfl⟩
        rw [← Hgu.out] at hU ⊢
        generalize wG.alloc (.cells _ 68) = wH at *
        have hcU := hU.cell
        have hcN := hNH.cell
        have hcW := hWH.cell
        cases C with
        | true =>
          obtain ⟨hi, he, hs, hnn⟩ := hC.1 rfl
          obtain ⟨hsl, hnl, hus, hun, hud0, V', hDA, hRA⟩ := hA rfl
          subst hi
          subst he
          have hs' : ses = ses2 := hs.symm
          subst hs'
          subst hus
          subst hun
          have hud := hud0 (by simp)
          clear hA hNA hC hud0
          have f1 : (us < s) = False := by simp; omega
          have f2 : us = s ∧ ¬ (un ≤ k) ∨ ¬ us = s := by
            rcases Classical.em (us = s) with h | h
            · have := hnl h; exact .inl ⟨h, by omega⟩
            · exact .inr h
          clear hnl hsl
          rcases f2 with ⟨h2, f2⟩ | f2
          · subst h2
            have f4 : (un ≤ k) = False := by simpa using f2
            have f6 : (un = num) = False := by simpa using hnn
            have f7 : (un == num) = false := by simpa using hnn
            have f8 : (un != num) = true := by simpa using hnn
            go_wp2_with fail
            have hNd := hNH.drew
            go_region_held3 (fun w' => w'.cell? ⟨gN, 1, none⟩ = some (.int .u32 us) ∧ w'.cell? ⟨gN, 2, none⟩ = some (.int .u32 un)) (exact endSD12 hNd) (first | fail)
            have hcE := conv_reads (c := cE) (Reads.of_own (own_below hownEH (Below.refl wH.heap.size wH).drew))
            have hcG := conv_reads (c := cG) (Reads.of_own (own_below hownGH (Below.refl wH.heap.size wH).drew))
            rw [hud] at hcE
            have hUd := hU.drew
            clear hcU hcN hcW
            have hcU := hUd.cell
            have hcN := hNd.cell
            have hTd := hTH.below (Below.refl wH.heap.size wH).drew
            have hBd := hBH.drew
            go_wp2_with fail
            go_roundg (300 - (i + 1))
            case measure => have := Hq.out; omega
            case rel =>
              have h3 := Hbd.out
              exact ⟨i + 1, m2, _, us, un, rfl, rfl, by go_num, h3.1, h3.2.1, h3.2.2, ⟨V', hDA, hRA⟩, hTd, hBd⟩
          · have f4 : (us = s) = False := by simpa using f2
            have f5 : (us == s) = false := by simpa using f2
            have f6 : (un = num) = False := by simpa using hnn
            have f7 : (un == num) = false := by simpa using hnn
            have f8 : (un != num) = true := by simpa using hnn
            go_wp2_with fail
            have hNd := hNH.drew
            go_region_held3 (fun w' => w'.cell? ⟨gN, 1, none⟩ = some (.int .u32 us) ∧ w'.cell? ⟨gN, 2, none⟩ = some (.int .u32 un)) (exact endSD12 hNd) (first | fail)
            have hcE := conv_reads (c := cE) (Reads.of_own (own_below hownEH (Below.refl wH.heap.size wH).drew))
            have hcG := conv_reads (c := cG) (Reads.of_own (own_below hownGH (Below.refl wH.heap.size wH).drew))
            rw [hud] at hcE
            have hUd := hU.drew
            clear hcU hcN hcW
            have hcU := hUd.cell
            have hcN := hNd.cell
            have hTd := hTH.below (Below.refl wH.heap.size wH).drew
            have hBd := hBH.drew
            go_wp2_with fail
            go_roundg (300 - (i + 1))
            case measure => have := Hq.out; omega
            case rel =>
              have h3 := Hbd.out
              exact ⟨i + 1, m2, _, us, un, rfl, rfl, by go_num, h3.1, h3.2.1, h3.2.2, ⟨V', hDA, hRA⟩, hTd, hBd⟩
        | false =>
          obtain ⟨hoo0, V', hDB, hRB⟩ := hNA rfl
          obtain ⟨hwon, hoo⟩ := hoo0 (by simp)
          subst hwon
          clear hA hNA hoo0
          have hC' : ¬ (is_ = true ∧ e2 = 0 ∧ ses2 = ses ∧ num2 ≠ num) := fun h => by have := hC.2 h; cases this
          clear hC
          rcases Bool.eq_false_or_eq_true is_ with hi | hi
          · by_cases he : e2 = 0
            · by_cases hs : ses2 = ses
              · have hnn : num2 = num := Classical.byContradiction fun h => hC' ⟨hi, he, hs, h⟩
                clear hC'
                subst hi
                subst he
                have hs' : ses = ses2 := hs.symm
                subst hs'
                have hnn' : num = num2 := hnn.symm
                subst hnn'
                have hcE := conv_reads (c := cE) (Reads.of_own hownEH)
                have hcA := conv_reads (c := cA) (Reads.of_own hownAH)
                rw [hoo] at hcA
                go_wp2_with fail
                go_roundg (300 - (i + 1))
                case measure => have := Hq.out; omega
                case rel =>
                  have h3 := Hbd.out
                  exact ⟨i + 1, m2, _, s, k, rfl, rfl, by go_num, h3.1, h3.2.1, h3.2.2, ⟨V', hDB, hRB⟩, hTH, hBH⟩
              · clear hC'
                subst hi
                subst he
                have q3 : (ses2 == ses) = false := by simpa using hs
                have j3 : (ses2 = ses) = False := by simpa using hs
                have hcE := conv_reads (c := cE) (Reads.of_own hownEH)
                have hcA := conv_reads (c := cA) (Reads.of_own hownAH)
                rw [hoo] at hcA
                go_wp2_with fail
                go_roundg (300 - (i + 1))
                case measure => have := Hq.out; omega
                case rel =>
                  have h3 := Hbd.out
                  exact ⟨i + 1, m2, _, s, k, rfl, rfl, by go_num, h3.1, h3.2.1, h3.2.2, ⟨V', hDB, hRB⟩, hTH, hBH⟩
            · clear hC'
              subst hi
              have q2 : (e2 == 0) = false := by simpa using he
              have j2 : (e2 = 0) = False := by simpa using he
              have hcE := conv_reads (c := cE) (Reads.of_own hownEH)
              have hcA := conv_reads (c := cA) (Reads.of_own hownAH)
              rw [hoo] at hcA
              go_wp2_with fail
              go_roundg (300 - (i + 1))
              case measure => have := Hq.out; omega
              case rel =>
                have h3 := Hbd.out
                exact ⟨i + 1, m2, _, s, k, rfl, rfl, by go_num, h3.1, h3.2.1, h3.2.2, ⟨V', hDB, hRB⟩, hTH, hBH⟩
          · clear hC'
            subst hi
            have hcE := conv_reads (c := cE) (Reads.of_own hownEH)
            have hcA := conv_reads (c := cA) (Reads.of_own hownAH)
            rw [hoo] at hcA
            go_wp2_with fail
            go_roundg (300 - (i + 1))
            case measure => have := Hq.out; omega
            case rel =>
              have h3 := Hbd.out
              exact ⟨i + 1, m2, _, s, k, rfl, rfl, by go_num, h3.1, h3.2.1, h3.2.2, ⟨V', hDB, hRB⟩, hTH, hBH⟩
      | false =>
        have hout := hoff rfl
        subst hout
        clear hon hoff
        go_wp2_with fail
        refine (hdec Ab cb _ (Reads.of_own hownBF) (own_cap hownBF)).mono ?_
        rintro e wG ⟨vG, rfl, hownG, hbG⟩
        obtain ⟨AG, cG, rfl⟩ := own_slice hownG
        have hbU := (Below.refl wG.heap.size wG).alloc (Nat.le_refl _) (.cells #[.int .i64 uk, .int .u32 uc, .int .u32 us, .int .u32 un, .int .i64 uf, .slice AG ud.length cG] 68)
        have hU := Blk.new wG 68 #[.int .i64 uk, .int .u32 uc, .int .u32 us, .int .u32 un, .int .i64 uf, .slice AG ud.length cG]
        have hbGU := hbG.trans (hbU.mono hbG.size)
        have hTH := hTF.below hbGU
        have hBH := hBF.trans (hbGU.mono hBF.size)
        have hWH := hWF.below hbGU hWF.lt
        have hNH := hN.below hbGU hN.lt
        have hownEH := own_below hownEF hbGU
        have hownAH := own_below hownAF hbGU
        have hownGH := own_below hownG hbU
        clear hdec hownBF hownG hbG hbU hbGU hTF hBF hWF hN hownEF hownAF hcN hcvE
        go_upto_region 24 with fail
        obtain ⟨gu, Hgu⟩ : ∃ x, Hid (x = wG.heap.size) := ⟨_, Lib.hid rfl⟩
        rw [← Hgu.out] at hU ⊢
        generalize wG.alloc (.cells _ 68) = wH at *
        have hcU := hU.cell
        have hcN := hNH.cell
        have hcW := hWH.cell
        cases C with
        | true =>
          obtain ⟨hi, he, hs, hnn⟩ := hC.1 rfl
          obtain ⟨hsl, hnl, hus, hun, hud0, V', hDA, hRA⟩ := hA rfl
          subst hi
          subst he
          have hs' : ses = ses2 := hs.symm
          subst hs'
          subst hus
          subst hun
          clear hA hNA hC hud0
          have f1 : (us < s) = False := by simp; omega
          have f2 : us = s ∧ ¬ (un ≤ k) ∨ ¬ us = s := by
            rcases Classical.em (us = s) with h | h
            · have := hnl h; exact .inl ⟨h, by omega⟩
            · exact .inr h
          clear hnl hsl
          rcases f2 with ⟨h2, f2⟩ | f2
          · subst h2
            have f4 : (un ≤ k) = False := by simpa using f2
            have f6 : (un = num) = False := by simpa using hnn
            have f7 : (un == num) = false := by simpa using hnn
            have f8 : (un != num) = true := by simpa using hnn
            go_wp2_with fail
            have hNd := hNH.drew
            go_region_held3 (fun w' => w'.cell? ⟨gN, 1, none⟩ = some (.int .u32 us) ∧ w'.cell? ⟨gN, 2, none⟩ = some (.int .u32 un)) (exact endSD12 hNd) (first | fail)
            have hUd := hU.drew
            clear hcU hcN hcW
            have hcU := hUd.cell
            have hcN := hNd.cell
            have hTd := hTH.below (Below.refl wH.heap.size wH).drew
            have hBd := hBH.drew
            go_wp2_with fail
            go_roundg (300 - (i + 1))
            case measure => have := Hq.out; omega
            case rel =>
              have h3 := Hbd.out
              exact ⟨i + 1, m2, _, us, un, rfl, rfl, by go_num, h3.1, h3.2.1, h3.2.2, ⟨V', hDA, hRA⟩, hTd, hBd⟩
          · have f4 : (us = s) = False := by simpa using f2
            have f5 : (us == s) = false := by simpa using f2
            have f6 : (un = num) = False := by simpa using hnn
            have f7 : (un == num) = false := by simpa using hnn
            have f8 : (un != num) = true := by simpa using hnn
            go_wp2_with fail
            have hNd := hNH.drew
            go_region_held3 (fun w' => w'.cell? ⟨gN, 1, none⟩ = some (.int .u32 us) ∧ w'.cell? ⟨gN, 2, none⟩ = some (.int .u32 un)) (exact endSD12 hNd) (first | fail)
            have hUd := hU.drew
            clear hcU hcN hcW
            have hcU := hUd.cell
            have hcN := hNd.cell
            have hTd := hTH.below (Below.refl wH.heap.size wH).drew
            have hBd := hBH.drew
            go_wp2_with fail
            go_roundg (300 - (i + 1))
            case measure => have := Hq.out; omega
            case rel =>
              have h3 := Hbd.out
              exact ⟨i + 1, m2, _, us, un, rfl, rfl, by go_num, h3.1, h3.2.1, h3.2.2, ⟨V', hDA, hRA⟩, hTd, hBd⟩
        | false =>
          obtain ⟨hoo0, V', hDB, hRB⟩ := hNA rfl
          clear hA hNA hoo0
          have hC' : ¬ (is_ = true ∧ e2 = 0 ∧ ses2 = ses ∧ num2 ≠ num) := fun h => by have := hC.2 h; cases this
          clear hC
          rcases Bool.eq_false_or_eq_true is_ with hi | hi
          · by_cases he : e2 = 0
            · by_cases hs : ses2 = ses
              · have hnn : num2 = num := Classical.byContradiction fun h => hC' ⟨hi, he, hs, h⟩
                clear hC'
                subst hi
                subst he
                have hs' : ses = ses2 := hs.symm
                subst hs'
                have hnn' : num = num2 := hnn.symm
                subst hnn'
                go_wp2_with fail
                go_roundg (300 - (i + 1))
                case measure => have := Hq.out; omega
                case rel =>
                  have h3 := Hbd.out
                  exact ⟨i + 1, m2, _, s, k, rfl, rfl, by go_num, h3.1, h3.2.1, h3.2.2, ⟨V', hDB, hRB⟩, hTH, hBH⟩
              · clear hC'
                subst hi
                subst he
                have q3 : (ses2 == ses) = false := by simpa using hs
                have j3 : (ses2 = ses) = False := by simpa using hs
                go_wp2_with fail
                go_roundg (300 - (i + 1))
                case measure => have := Hq.out; omega
                case rel =>
                  have h3 := Hbd.out
                  exact ⟨i + 1, m2, _, s, k, rfl, rfl, by go_num, h3.1, h3.2.1, h3.2.2, ⟨V', hDB, hRB⟩, hTH, hBH⟩
            · clear hC'
              subst hi
              have q2 : (e2 == 0) = false := by simpa using he
              have j2 : (e2 = 0) = False := by simpa using he
              go_wp2_with fail
              go_roundg (300 - (i + 1))
              case measure => have := Hq.out; omega
              case rel =>
                have h3 := Hbd.out
                exact ⟨i + 1, m2, _, s, k, rfl, rfl, by go_num, h3.1, h3.2.1, h3.2.2, ⟨V', hDB, hRB⟩, hTH, hBH⟩
          · clear hC'
            subst hi
            go_wp2_with fail
            go_roundg (300 - (i + 1))
            case measure => have := Hq.out; omega
            case rel =>
              have h3 := Hbd.out
              exact ⟨i + 1, m2, _, s, k, rfl, rfl, by go_num, h3.1, h3.2.1, h3.2.2, ⟨V', hDB, hRB⟩, hTH, hBH⟩
    · have hd : decide (i < n ∧ i < 300) = false := by simpa using hlt
      obtain ⟨W0, rfl⟩ : ∃ W : World, W = wr := ⟨_, rfl⟩
      clear hops
      go_upto_region 14 with fail
      go_cut [64] (fun v wc => v = .bool (decide (i < n ∧ i < 300)) ∧ wc = W0)
      case first =>
        by_cases h1 : i < n
        · have h2 : ¬ i < 300 := fun h => hlt ⟨h1, h⟩
          go_wp2_with fail
          go_meet
          exact ⟨by have e : ((i : Int) < 300) ↔ (i < 300) := by omega
                    simp [h1, h2, e], rfl⟩
        · go_wp2_with fail
          go_meet
          exact ⟨by simp [h1], rfl⟩
      case rest =>
      obtain ⟨rfl, hwc⟩ := hcut
      subst hwc
      rw [hd]
      clear hlt hd
      clear hq
      go_wp2_with fail
      go_ret
      exact ⟨rfl, hB⟩
end Go.Proofs.YtbkkfkbgcklkgaaGreat
