/- The walk of MuxPlays. -/
import Derived.Test.YtlldgfejcjnpkaaGreatCMuxStepA
import Derived.Test.YtlldgfejcjnpkaaGreatCMuxShows
import Derived.Test.YtlldgfejcjnpkaaGreatMid6
import Derived.Test.YtlldgfejcjnpkaaGreatCRowPops
set_option linter.unusedVariables false
namespace Go.Proofs.YtlldgfejcjnpkaaGreat
open Go.RowKit
set_option maxHeartbeats 10000000
set_option maxRecDepth 100000

theorem muxPlays_law (A0 : Option Addr) (n0 c0 : Nat) (cs : List Int) (A : Option Addr) (n c : Nat) (l : List (Int × OpM)) (w : World) (hr0 : Reads w w.heap.size 1 A0 n0 (u32c cs)) (hcs : ∀ x ∈ cs, 0 ≤ x ∧ x < 4294967296) (hn0 : n0 ≤ 140737488351232) (hops : PopsAt w w.heap.size A n l) (hn : n ≤ 140737488351232) :
    Calls Tryz.prog 8 #[.slice A0 n0 c0, .slice A n c] w fun e w' => e = .returned (.bool true) ∧ Below w.heap.size w w' := by
  go_enter Tryz.func8, Tryz.ntmps8
  go_wp2_with fail
  refine (lawAwakeM_any w).mono ?_
  rintro e w1 ⟨rfl, hb1⟩
  have hz1 := hb1.size
  have hbu := build_any A0 n0 c0 cs w1 ((hr0.below hb1).more hz1) hcs hn0
  clear hr0
  go_wp2_with fail
  refine hbu.mono ?_
  rintro e w2 ⟨z, x, y, R, Q, F, G, U, rfl, hW, hb2⟩
  have hb2' := hb1.trans (hb2.mono hz1)
  clear hbu hb1 hb2
  go_wp2_with fail
  go_loopg [7] 300 (fun q v7 wr => ∃ (i : Nat) (R : List PRow) (Q : List QRow) (lost : Int) (F G : Nat → Prop), v7 = .int .i64 i ∧ i + q = 300 ∧ i ≤ n ∧ MuxW w1.heap.size wr z x y R Q lost F G U i ∧ Below w.heap.size w wr)
  case atStart => exact ⟨0, _, _, _, _, _, rfl, by omega, by omega, hW, hb2'⟩
  case round =>
    clear hW hb2'
    obtain ⟨i, R, Q, lost, F, G, rfl, hq, hin, hW, hB⟩ := hrel
    obtain ⟨Wr, rfl⟩ : ∃ W : World, W = wr := ⟨_, rfl⟩
    by_cases hlt : i < n ∧ i < 300
    · obtain ⟨h1, h2⟩ := hlt
      obtain ⟨ad, place, o, D, co, rfl, ho, ⟨p0, p1, p2, p3, p4, p5, p6, p7⟩, hok, hrd, hdc, hdl, hadB⟩ := pops_at (hops.below hB) h1
      have hst := l16step_any w1.heap.size i z x y R Q lost F G U place o D co Wr hW (by omega) hok (hrd.more hz1) hdc hdl
      obtain ⟨okind, on_, oflags, oodd, odata, oat, oword⟩ := o
      unfold popVal at hst
      simp only at *
      have Hq := Lib.hid hq
      have Hin := Lib.hid hin
      have h1' : ((i : Nat) : Int) < (n : Int) := by omega
      have h2' : ((i : Nat) : Int) < 300 := by omega
      clear ho hok hrd hdc hdl hW hq hin
      go_wp2_with fail
      refine hst.mono ?_
      rintro e w5 ⟨rfl, R', Q', lost', F', G', hW5, _, hb5⟩
      have hB5 := hB.trans (hb5.mono hz1)
      have hsh := l16shows_any w1.heap.size (i + 1) z x y R' Q' lost' F' G' U w5 hW5 (by omega)
      clear p0 p1 p2 p3 p4 p5 p6 p7 hst
      go_wp2_with fail
      refine hsh.mono ?_
      rintro e w6 ⟨rfl, hb6⟩
      have hW6 := hW5.below hb6
      have hB6 := hB5.trans (hb6.mono hB5.size)
      go_wp2_with fail
      go_roundg (300 - (i + 1))
      case measure => have := Hq.out; omega
      case rel =>
        have := Hq.out
        exact ⟨i + 1, _, _, _, _, _, by go_num, by omega, by omega, hW6, hB6⟩
    · have hsh := l16shows_any w1.heap.size i z x y R Q lost F G U Wr hW (by omega)
      clear hops hW hq hin
      by_cases h1 : i < n
      · have h2 : ¬ i < 300 := fun h => hlt ⟨h1, h⟩
        have h1' : ((i : Nat) : Int) < (n : Int) := by omega
        have h2' : ¬ ((i : Nat) : Int) < 300 := by omega
        clear hlt
        go_wp2_with fail
        refine hsh.mono ?_
        rintro e w7 ⟨rfl, hb7⟩
        have hB7 := hB.trans (hb7.mono hB.size)
        go_wp2_with fail
        go_ret
        exact ⟨rfl, hB7⟩
      · have h1' : ¬ ((i : Nat) : Int) < (n : Int) := by omega
        clear hlt
        go_wp2_with fail
        refine hsh.mono ?_
        rintro e w7 ⟨rfl, hb7⟩
        have hB7 := hB.trans (hb7.mono hB.size)
        go_wp2_with fail
        go_ret
        exact ⟨rfl, hB7⟩
end Go.Proofs.YtlldgfejcjnpkaaGreat
