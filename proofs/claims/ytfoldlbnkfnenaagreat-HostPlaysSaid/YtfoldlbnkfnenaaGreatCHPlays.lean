/- The walk of HostPlays. -/
import Derived.Test.YtfoldlbnkfnenaaGreatCShows
namespace Go.Proofs.YtfoldlbnkfnenaaGreat
open Go.RowKit
set_option maxHeartbeats 10000000
set_option maxRecDepth 100000

theorem hostPlays_law (p : ParM) (A : Option Addr) (n c : Nat) (l : List OpM) (w : World) (hpo : p.Ok) (hops : OpsAt w w.heap.size A n l) (hn : n ≤ 140737488351232) :
    Calls Tryz.prog 9 #[parVal p, .slice A n c] w fun e w' => e = .returned (.bool true) ∧ Below w.heap.size w w' := by
  have hbX := (Below.refl w.heap.size w).alloc (Nat.le_refl _) (.cells #[.int .u32 p.code, .int .i64 p.out, .int .i64 p.inn, .int .i64 p.watch, .int .u32 p.count] 30)
  have hX := Blk.new w 30 #[.int .u32 p.code, .int .i64 p.out, .int .i64 p.inn, .int .i64 p.watch, .int .u32 p.count]
  have hnew := fun W => hostNew_any p W
  have hbad := fun W => hostNew_bad p W
  have hrnew := fun W => rhNew_any p W hpo
  have hrbad := fun W => rhNew_bad p W hpo
  unfold parVal at *
  go_enter Tryz.func9, Tryz.ntmps9
  go_upto_region 1 with fail
  obtain ⟨g0, Hg0⟩ : ∃ g, Hid (g = w.heap.size) := ⟨_, Lib.hid rfl⟩
  rw [← Hg0.out] at hX ⊢
  generalize w.alloc (.cells _ 30) = w0 at *
  go_wp2_with fail
  refine (lawAwake_any _).mono ?_
  rintro e w1 ⟨rfl, hb1⟩
  have hb1' := hbX.trans (hb1.mono hbX.size)
  have hX1 := hX.below hb1 hX.lt
  have hcX := hX1.cell
  clear hX hbX hb1
  cases hpl : p.lawful with
  | false =>
    go_wp2_with fail
    refine (hbad w1 hpl).mono ?_
    rintro e w2 ⟨rfl, hb2⟩
    have hX2 := hX1.below hb2 hX1.lt
    have hb2' := hb1'.trans (hb2.mono hb1'.size)
    clear hcX
    have hcX := hX2.cell
    go_wp2_with fail
    refine (hrbad w2 hpl).mono ?_
    rintro e w3 ⟨rfl, hb3⟩
    have hb3' := hb2'.trans (hb3.mono hb2'.size)
    clear hcX
    go_wp2_with fail
    go_ret
    exact ⟨rfl, hb3'⟩
  | true =>
    go_wp2_with fail
    refine (hnew w1 hpl).mono ?_
    rintro e w2 ⟨a, F1, rfl, hI, hb2⟩
    have hX2 := hX1.below hb2 hX1.lt
    have hb2' := hb1'.trans (hb2.mono hb1'.size)
    have hz1 := hb1'.size
    clear hcX
    have hcX := hX2.cell
    go_wp2_with fail
    refine (hrnew w2 hpl).mono ?_
    rintro e w3 ⟨b, F2, rfl, hR, hb3⟩
    have hT := two_new p hpo hpl hI hR hb3
    have hb3' := hb2'.trans (hb3.mono hb2'.size)
    clear hcX hX2 hX1 hb1' hI hR hb2 hb3 hb2' hnew hbad hrnew hrbad
    go_wp2_with fail
    go_loopg [9] 300 (fun q v9 wr => ∃ (i : Nat) (m : HostM) (T : Nat → Prop), v9 = .int .i64 i ∧ i + q = 300 ∧ i ≤ n ∧ m.log.length ≤ 2 * i ∧ Two w1.heap.size wr a b m T ∧ Below w.heap.size w wr)
    case atStart => exact ⟨0, _, _, rfl, by omega, by omega, by simp [HostM.new], hT, hb3'⟩
    case round =>
      clear hT hb3'
      obtain ⟨i, m, T, rfl, hq, hin, hlg, hT, hB⟩ := hrel
      by_cases hlt : i < n ∧ i < 300
      · obtain ⟨h1, h2⟩ := hlt
        have hsh := l14shows_any w1.heap.size a b m T wr hT (by omega)
        have Hq := Lib.hid hq
        clear hq
        go_wp2_with fail
        refine hsh.mono ?_
        rintro e w7 ⟨rfl, hb7⟩
        have hT7 := hT.below hb7
        have hB7 := hB.trans (hb7.mono hB.size)
        obtain ⟨ad, o, D, co, rfl, ho, ⟨p0, p1, p2, p3, p4, p5, p6⟩, hok, hrd, hdc, hdl, hadB⟩ := ops_at (hops.below hB7) h1
        have hst := two_step hT7 (by omega) o D co hok (hrd.more hB7.size) (fun hn ad e => .inl (by obtain ⟨ad', e', hb', _⟩ := hrd.2 hn; rw [e] at e'; injection e' with e'; subst e'; omega)) hdc hdl
        obtain ⟨okind, on_, oflags, oodd, odata, oat, oword⟩ := o
        unfold opVal at hst
        simp only at *
        clear ho hok hrd hdc hdl hsh hT hB hb7
        go_wp2_with fail
        refine hst.mono ?_
        rintro e w8 ⟨rfl, hT8, hk8, hb8⟩
        have hB8 := hB7.trans (hb8.mono hz1)
        have hl8 := stepM_log m ⟨okind, on_, oflags, oodd, odata, oat, oword⟩
        go_wp2_with fail
        go_roundg (300 - (i + 1))
        case measure => have := Hq.out; omega
        case rel =>
          have := Hq.out
          exact ⟨i + 1, _, _, by go_num, by omega, by omega, by omega, hT8, hB8⟩
      · have hd : decide (i < n ∧ i < 300) = false := by simpa using hlt
        obtain ⟨W0, rfl⟩ : ∃ W : World, W = wr := ⟨_, rfl⟩
        clear hops
        go_upto_region 10 with fail
        go_cut [41] from 34 to 57 (fun v41 wc => v41 = .bool (decide (i < n ∧ i < 300)) ∧ wc = W0)
        case first =>
          by_cases h1 : i < n
          · have h2 : ¬ i < 300 := fun h => hlt ⟨h1, h⟩
            go_wp2_with fail
            go_meet
            exact ⟨by have e : ((i : Int) < 300) ↔ (i < 300) := by omega
                      simp [h1, h2, e], rfl⟩
          · go_wp2_with fail
            go_meet
            exact ⟨by simp [h1], rfl⟩
        case rest =>
          obtain ⟨rfl, hwc⟩ := hcut
          subst hwc
          rw [hd]
          have hsh := l14shows_any w1.heap.size a b m T wc hT (by omega)
          clear hlt hd hq
          go_wp2_with fail
          refine hsh.mono ?_
          rintro e w7 ⟨rfl, hb7⟩
          have hB7 := hB.trans (hb7.mono hB.size)
          go_wp2_with fail
          go_ret
          exact ⟨rfl, hB7⟩
end Go.Proofs.YtfoldlbnkfnenaaGreat
