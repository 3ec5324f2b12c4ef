/- The walk of DevicePlays. -/
import Derived.Test.YtbkkfkbgcklkgaaGreatCDLoad
import Derived.Test.YtbkkfkbgcklkgaaGreatCDShows
import Derived.Deep.RegionHeld3
import Derived.Deep.RegionHeld
namespace Go.Proofs.YtbkkfkbgcklkgaaGreat
open Go.RowKit
set_option maxHeartbeats 10000000
set_option maxRecDepth 100000

theorem devicePlays_law (p : ParM) (A0 : Option Addr) (n0 c0 : Nat) (raw : List UInt8) (mx : Int) (A : Option Addr) (n c : Nat) (l : List OpM) (w : World) (hpo : p.Ok) (hr0 : Reads w w.heap.size 1 A0 n0 (u8c raw)) (hn0 : n0 ≤ 140737488351232) (hmx : 0 ≤ mx ∧ mx < 4294967296) (hops : OpsAt w w.heap.size A n l) (hn : n ≤ 140737488351232) :
    Calls Tryz.prog 11 #[parVal p, .slice A0 n0 c0, .int .u32 mx, .slice A n c] w fun e w' => e = .returned (.bool true) ∧ Below w.heap.size w w' := by
  have hbX := (Below.refl w.heap.size w).alloc (Nat.le_refl _) (.cells #[.int .u32 p.code, .int .i64 p.out, .int .i64 p.inn, .int .i64 p.watch, .int .u32 p.count] 35)
  have hX := Blk.new w 35 #[.int .u32 p.code, .int .i64 p.out, .int .i64 p.inn, .int .i64 p.watch, .int .u32 p.count]
  obtain ⟨i0, hi0, hz0, hz1, hz2⟩ := info_parts byte_info
  unfold parVal at *
  go_enter Tryz.func11, Tryz.ntmps11
  go_upto_region 1 with fail
  obtain ⟨g0, Hg0⟩ : ∃ g, Hid (g = w.heap.size) := ⟨_, Lib.hid rfl⟩
  rw [← Hg0.out] at hX ⊢
  generalize w.alloc (.cells _ 35) = w0 at *
  go_wp2_with fail
  refine (lawAwakeD_any _).mono ?_
  rintro e w1 ⟨rfl, hb1⟩
  have hb1' := hbX.trans (hb1.mono hbX.size)
  have hX1 := hX.below hb1 hX.lt
  have hr1 := hr0.below hb1'
  have hz1' := hb1'.size
  clear hX hbX hb1 hr0
  go_wp2_with (at_builtin; refine wpList_append_any _ rfl (.tmp 19) (.tmp 20) _ rfl w1.heap.size 5 i0 _ 1 1 Tryz.underlying41 hi0 hz0 hz1 hz2 rfl (by omega) (.slice (some ⟨w1.heap.size, 0, none⟩) 0 0) 0 [] rfl (World.ownsRow_made w1 #[] 0 (Nat.le_refl _) (by unfold maxLen; omega) rfl) w.heap.size A0 n0 c0 (u8c raw) rfl (hr1.alloc hz1' _) (u8c_one raw) (by unfold maxLen; omega) (by omega) (by simp) ?_; intro v2 w2 hown2 hg2 hat2; rw [Nat.zero_add, List.nil_append] at hown2; obtain ⟨A2, c2, rfl⟩ := own_slice hown2)
  have hb2 := ((Below.refl w1.heap.size w1).alloc (Nat.le_refl _) (.cells #[] 5)).grown hg2 (by simp) (fun k hk => by simp [Value.ownBlock] at hk; omega)
  have hb2' := hb1'.trans (hb2.mono hz1')
  have hX2 := hX1.below hb2 hX1.lt
  have hr2 := hr1.below (hb2.mono hz1')
  have hg02 : g0 < w2.heap.size := Nat.lt_of_lt_of_le hX1.lt hb2.size
  clear hg2 hat2 hX1 hr1
  by_cases hbig : 4096 < n0
  · refine (memLoad_big A2 n0 c2 w2 hbig).mono ?_
    rintro e w3 ⟨rfl, rfl⟩
    go_wp2_with fail
    refine (rmemLoad_big A0 n0 c0 w3 hbig).mono ?_
    rintro e w4 ⟨rfl, rfl⟩
    clear hown2 hX2 hr2
    go_wp2_with fail
    go_ret
    exact ⟨rfl, hb2'⟩
  refine (memLoad_any A2 n0 c2 w2.heap.size raw w2 (fun e => reads_nn (Reads.of_own hown2) e) (Reads.of_own hown2) (Nat.le_refl _) (by omega)).mono ?_
  rintro e w3 ⟨ma, rfl, hM3, hb3⟩
  have hb3' := hb2'.trans (hb3.mono hb2'.size)
  have hX3 := hX2.below hb3 hX2.lt
  have hr3 := hr2.below (hb3.mono hb2'.size)
  clear hown2 hX2 hr2
  go_wp2_with fail
  refine (rmemLoad_any A0 n0 c0 w.heap.size raw w3 hr3 hb3'.size (by omega)).mono ?_
  rintro e w4 ⟨mb, rfl, hM4, hb4⟩
  have hb4' := hb3'.trans (hb4.mono hb3'.size)
  have hX4 := hX3.below hb4 hX3.lt
  obtain ⟨F1, F2, hMs⟩ := mems_newM hM3 hb3 hM4 hb4
  have hq4 : Below w2.heap.size w2 w4 := hb3.trans (hb4.mono hb3.size)
  have hz2' := hb2'.size
  have hz4 := hq4.size
  have hcX := hX4.cell
  clear hM3 hM4 hX3 hr3 hb3 hb4
  have hnew := devNew_any w2.heap.size ma p (memOf raw) F1 mx w4 hMs.m1 rfl hMs.lo1 hz4 hmx
  have hrnew := fun W h hlo => rdNew_any w2.heap.size mb p (memOf raw) F2 mx W hpo h hlo
  have hinv := fun m' d e h => DevM.inv_new (p := p) (m := memOf raw) (m' := m') (mx := mx) (e := e) (d := d) hpo hmx h
  have hlog0 := fun m' d e h => new_log (p := p) (m := memOf raw) (m' := m') (mx := mx) (e := e) (d := d) h
  unfold NewAns at hnew
  unfold parVal at hnew hrnew
  generalize DevM.new p (memOf raw) mx = r at *
  obtain ⟨Mr, dr, er⟩ := r
  have hpF : ∀ x, F1 x → x ≠ g0 := fun x hx e => by have h1 := (hMs.lo1 x hx).1; omega
  cases dr with
  | none =>
    simp only at hnew hrnew
    go_wp2_with fail
    refine hnew.mono ?_
    rintro e w5 ⟨hk5, rfl, _⟩
    obtain ⟨hM5, hlo5, _⟩ := hMs.dev (F1' := F1) hk5 (fun x hx => .inl hx)
    have hX5 := hX4.keep hk5 (fun h => hpF _ h rfl)
    have hq5 := hq4.trans (hk5.below hz4 (fun x hx => (hMs.lo1 x hx).1))
    have hb5' := hb2'.trans (hq5.mono hz2')
    clear hcX
    have hcX := hX5.cell
    go_wp2_with fail
    refine (hrnew w5 hM5 hlo5).mono ?_
    rintro e w6 ⟨hk6, rfl⟩
    have hz5 := hq5.size
    have hq6 := hq5.trans (hk6.below hz5 (fun x hx => (hlo5 x hx).1))
    clear hcX
    go_wp2_with fail
    go_ret
    exact ⟨rfl, hb2'.trans (hq6.mono hz2')⟩
  | some d =>
    simp only at hnew hrnew
    go_wp2_with fail
    refine hnew.mono ?_
    rintro e w5 ⟨hk5, her, a, F3, rfl, hI5, hs5⟩
    obtain ⟨hM5, hlo5, hdj5⟩ := hMs.dev hk5 hs5
    have hX5 := hX4.keep hk5 (fun h => hpF _ h rfl)
    have hq5 := hq4.trans (hk5.below hz4 (fun x hx => (hMs.lo1 x hx).1))
    have hz5 := hq5.size
    clear hcX
    have hcX := hX5.cell
    go_wp2_with fail
    refine (hrnew w5 hM5 hlo5).mono ?_
    rintro e w6 ⟨hk6, b, rfl, hR6⟩
    obtain ⟨T0, hT⟩ := two_newM (hinv _ _ _ rfl).1 hI5 hdj5 hR6 hk6
    have hlg0 := hlog0 _ _ _ rfl
    have hq6 := hq5.trans (hk6.below hz5 (fun x hx => (hlo5 x hx).1))
    have hz6 := hq6.size
    clear hcX hX5 hI5 hM5 hlo5 hdj5 hR6 hk6 hk5 hs5 hMs hnew hrnew hinv hlog0 hX4 hq4 hq5
    go_wp2_with fail
    go_loopg [15] 300 (fun q v15 wr => ∃ (i : Nat) (m : DevM) (T : Nat → Prop), v15 = .int .i64 i ∧ i + q = 300 ∧ i ≤ n ∧ m.log.length ≤ 4 * i ∧ TwoD w2.heap.size wr a ma b mb m T ∧ Below w2.heap.size w2 wr)
    case atStart => exact ⟨0, _, _, rfl, by omega, by omega, by rw [hlg0]; simp, hT, hq6⟩
    case round =>
      clear hT hq6
      obtain ⟨i, m, T, rfl, hq, hin, hlg, hT, hQ⟩ := hrel
      have hB := hb2'.trans (hQ.mono hz2')
      by_cases hlt : i < n ∧ i < 300
      · obtain ⟨h1, h2⟩ := hlt
        have hsh := l13shows_any w2.heap.size a ma b mb m T wr hT (by omega)
        have Hq := Lib.hid hq
        clear hq
        go_wp2_with fail
        refine hsh.mono ?_
        rintro e w7 ⟨rfl, hb7⟩
        have hT7 := hT.below hb7
        have hB7 := hB.trans (hb7.mono hB.size)
        have hQ7 := hQ.trans (hb7.mono hT.Ble)
        obtain ⟨ad, o, D, co, rfl, ho, ⟨p0, p1, p2, p3, p4, p5, p6⟩, hok, hrd, hdc, hdl, hadB⟩ := ops_at (hops.below hB7) h1
        have hst := two_stepD hT7 (by omega) o D co hok (hrd.more hB7.size) (fun hn ad e => .inl (by obtain ⟨ad', e', hb', _⟩ := hrd.2 hn; rw [e] at e'; injection e' with e'; subst e'; omega)) hdc hdl
        obtain ⟨okind, on_, oflags, oodd, odata, oat, oword⟩ := o
        unfold opVal at hst
        simp only at *
        clear ho hok hrd hdc hdl hsh hT hB hb7 hQ
        go_wp2_with fail
        refine hst.mono ?_
        rintro e w8 ⟨rfl, hT8, hk8, hb8⟩
        have hQ8 := hQ7.trans hb8
        have hl8 := stepD_log m ⟨okind, on_, oflags, oodd, odata, oat, oword⟩
        go_wp2_with fail
        go_roundg (300 - (i + 1))
        case measure => have := Hq.out; omega
        case rel =>
          have := Hq.out
          exact ⟨i + 1, _, _, by go_num, by omega, by omega, by omega, hT8, hQ8⟩
      · have hd : decide (i < n ∧ i < 300) = false := by simpa using hlt
        obtain ⟨W0, rfl⟩ : ∃ W : World, W = wr := ⟨_, rfl⟩
        clear hops
        go_upto_region 16 with fail
        go_cut [68] (fun v wc => v = .bool (decide (i < n ∧ i < 300)) ∧ wc = W0)
        case first =>
          by_cases h1 : i < n
          · have h2 : ¬ i < 300 := fun h => hlt ⟨h1, h⟩
            go_wp2_with fail
            go_meet
            exact ⟨by have e : ((i : Int) < 300) ↔ (i < 300) := by omega
                      simp [h1, h2, e], rfl⟩
          · go_wp2_with fail
            go_meet
            exact ⟨by simp [h1], rfl⟩
        case rest =>
        obtain ⟨rfl, hwc⟩ := hcut
        subst hwc
        rw [hd]
        clear hlt hd
        have hsh := l13shows_any w2.heap.size a ma b mb m T wc hT (by omega)
        clear hq
        go_wp2_with fail
        refine hsh.mono ?_
        rintro e w7 ⟨rfl, hb7⟩
        have hB7 := hB.trans (hb7.mono hB.size)
        go_wp2_with fail
        go_ret
        exact ⟨rfl, hB7⟩
end Go.Proofs.YtbkkfkbgcklkgaaGreat
