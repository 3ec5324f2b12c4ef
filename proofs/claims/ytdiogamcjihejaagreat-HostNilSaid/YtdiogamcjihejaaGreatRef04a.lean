/- The reference's units (parapetref04): Word, Host, Device, data, Lawful. -/
import Derived.Test.YtdiogamcjihejaaGreatRef02
import Derived.Test.YtdiogamcjihejaaGreatUnitA
namespace Go.Proofs.YtdiogamcjihejaaGreat
open Go.RowKit
set_option maxHeartbeats 4000000
set_option maxRecDepth 100000

theorem r4word_any (ad : Addr) (n c : Nat) (b0 b1 b2 b3 : UInt8) (w : World) (hn : 4 ≤ n) (h0 : w.cell? (ad.add 0) = some (.int .u8 (b0.toNat : Int))) (h1 : w.cell? (ad.add 1) = some (.int .u8 (b1.toNat : Int)))
    (h2 : w.cell? (ad.add 2) = some (.int .u8 (b2.toNat : Int))) (h3 : w.cell? (ad.add 3) = some (.int .u8 (b3.toNat : Int))) :
    Calls Tryz.prog 93 #[.slice (some ad) n c] w fun e w' => e = .returned (u32v (ofWord b0 b1 b2 b3)) ∧ ∃ k, w' = w.drewN k := by
  have g0 : (0 : Int) < n := by omega
  have g1 : (1 : Int) < n := by omega
  have g2 : (2 : Int) < n := by omega
  have g3 : (3 : Int) < n := by omega
  rw [show ad.add 0 = ad from rfl] at h0
  rw [show ad.add 1 = ⟨ad.block, ad.off + 1, none⟩ from rfl] at h1
  rw [show ad.add 2 = ⟨ad.block, ad.off + 2, none⟩ from rfl] at h2
  rw [show ad.add 3 = ⟨ad.block, ad.off + 3, none⟩ from rfl] at h3
  go_enter Tryz.func93, Tryz.ntmps93
  go_wp2_with fail
  go_big_quiet (fail)
  go_wp2_with fail
  go_ret
  refine ⟨?_, _, rfl⟩
  exact congrArg (fun x => Ending.returned (Value.int .u32 x)) (get_word b0 b1 b2 b3)
theorem r4host_any (k : Int) (w : World) : Calls Tryz.prog 111 #[.int .i64 k] w fun e w' => e = .returned (.bool (isHost k)) ∧ w' = w := by
  by_cases h1 : 1 ≤ k
  · go_enter Tryz.func111, Tryz.ntmps111
    go_wp2_with fail
    go_ret
    exact ⟨by simp [isHost, h1], rfl⟩
  · go_enter Tryz.func111, Tryz.ntmps111
    go_wp2_with fail
    go_ret
    exact ⟨by simp [isHost]; omega, rfl⟩
theorem r4device_any (k : Int) (w : World) : Calls Tryz.prog 82 #[.int .i64 k] w fun e w' => e = .returned (.bool (isDev k)) ∧ w' = w := by
  by_cases h1 : 17 ≤ k
  · go_enter Tryz.func82, Tryz.ntmps82
    go_wp2_with fail
    go_ret
    exact ⟨by simp [isDev, h1], rfl⟩
  · go_enter Tryz.func82, Tryz.ntmps82
    go_wp2_with fail
    go_ret
    exact ⟨by simp [isDev]; omega, rfl⟩
theorem r4data_any (k : Int) (n : Nat) (w : World) : Calls Tryz.prog 149 #[.int .i64 k, .int .i64 (n : Int)] w fun e w' => e = .returned (.bool (dataOk k n)) ∧ w' = w := by
  have e4 : ((n : Int) == 4) = (n == 4) := by rw [Bool.eq_iff_iff]; simp; omega
  have e0 : ((n : Int) == 0) = (n == 0) := by rw [Bool.eq_iff_iff]; simp
  by_cases h1 : k = 1 ∨ k = 2 ∨ k = 17
  · have e : dataOk k n = (n == 4) := by unfold dataOk; rw [if_pos h1]
    rw [e, ← e4]
    clear e e4 e0
    rcases h1 with rfl | rfl | rfl
    all_goals
      go_enter Tryz.func149, Tryz.ntmps149
      go_wp2_with fail
      go_ret
      exact ⟨rfl, rfl⟩
  by_cases h2 : k = 4 ∨ k = 20
  · have e : dataOk k n = decide (1 ≤ n ∧ n ≤ 8) := by unfold dataOk; rw [if_neg h1, if_pos h2]
    rw [e]
    clear e e4 e0
    rcases h2 with rfl | rfl
    all_goals
      by_cases h3 : 1 ≤ (n : Int)
      · go_enter Tryz.func149, Tryz.ntmps149
        go_wp2_with fail
        go_ret
        refine ⟨?_, rfl⟩
        have h4 : 1 ≤ n := by omega
        refine congrArg (fun x => Ending.returned (Value.bool x)) ?_
        rw [Bool.eq_iff_iff]
        simp [h4]
        try omega
      · go_enter Tryz.func149, Tryz.ntmps149
        go_wp2_with fail
        go_ret
        refine ⟨?_, rfl⟩
        have h4 : ¬ 1 ≤ n := by omega
        simp [h4]
  · have e : dataOk k n = (n == 0) := by unfold dataOk; rw [if_neg h1, if_neg h2]
    rw [e, ← e0]
    simp only [not_or] at h1 h2
    have g1 : (k == 1) = false := by simpa using h1.1
    have g2 : (k == 2) = false := by simpa using h1.2.1
    have g3 : (k == 17) = false := by simpa using h1.2.2
    have g4 : (k == 4) = false := by simpa using h2.1
    have g5 : (k == 20) = false := by simpa using h2.2
    clear e e4 e0 h1 h2
    go_enter Tryz.func149, Tryz.ntmps149
    go_wp2_with fail
    go_ret
    exact ⟨rfl, rfl⟩
theorem r4lawful_any (u : UnitM) (A : Option Addr) (c : Nat) (w : World) (hs : 0 ≤ u.session) (hn : 0 ≤ u.number) :
    Calls Tryz.prog 94 #[unitVal u (.slice A u.data.length c)] w fun e w' => e = .returned (.int .i64 u.lawful) ∧ Below w.heap.size w w' := by
  obtain ⟨kind, code, session, number, flags, data⟩ := u
  unfold unitVal
  simp only at *
  have hb : ∀ cs t, Below w.heap.size w (w.alloc (.cells cs t)) := fun cs t => (Below.refl _ _).alloc (Nat.le_refl _) _
  have hh := r4host_any kind
  have hd := r4device_any kind
  have hda := r4data_any kind data.length
  obtain ⟨law, Hlaw⟩ : ∃ x, Hid (x = (UnitM.mk kind code session number flags data).lawful) := ⟨_, Lib.hid rfl⟩
  rw [← Hlaw.out]
  by_cases hk : kind = 1 ∨ kind = 2 ∨ kind = 17 ∨ kind = 3 ∨ kind = 18 ∨ kind = 19 ∨ kind = 4 ∨ kind = 20 ∨ kind = 5 ∨ kind = 21 ∨ kind = 22
  · rcases hk with rfl | rfl | rfl | rfl | rfl | rfl | rfl | rfl | rfl | rfl | rfl
    all_goals
      go_enter Tryz.func94, Tryz.ntmps94
      go_wp2_with (first
        | (go_at_call 111; refine (hh _).mono ?_; rintro e w1 ⟨rfl, rfl⟩)
        | (go_at_call 82; refine (hd _).mono ?_; rintro e w1 ⟨rfl, rfl⟩)
        | (go_at_call 149; refine (hda _).mono ?_; rintro e w1 ⟨rfl, rfl⟩))
      all_goals
        go_ret
        refine ⟨?_, hb _ _⟩
        clear hh hd hda hb
        rw [Hlaw.out]
        clear Hlaw
        refine congrArg (fun x => Ending.returned (Value.int .i64 x)) ?_
        simp_all [UnitM.lawful, isHost, isDev, sessOk, numOk, flagOk]
        try omega
  · have e : (UnitM.mk kind code session number flags data).lawful = 43 := by
      have h1 : isHost kind = false := by simp [isHost]; omega
      have h2 : isDev kind = false := by simp [isDev]; omega
      simp [UnitM.lawful, h1, h2]
    have h1 : isHost kind = false := by simp [isHost]; omega
    have h2 : isDev kind = false := by simp [isDev]; omega
    rw [h1] at hh
    rw [h2] at hd
    rw [e] at Hlaw
    have hl := Hlaw.out
    subst hl
    simp only [not_or] at hk
    obtain ⟨n1, n2, n3, n4, n5, n6, n7, n8, n9, n10, n11⟩ := hk
    have g4 : (kind == 4) = false := by simpa using n7
    have g20 : (kind == 20) = false := by simpa using n8
    have g5 : (kind == 5) = false := by simpa using n9
    have g21 : (kind == 21) = false := by simpa using n10
    clear n1 n2 n3 n4 n5 n6 n7 n8 n9 n10 n11 e hda Hlaw
    go_enter Tryz.func94, Tryz.ntmps94
    go_wp2_with (first
      | (go_at_call 111; refine (hh _).mono ?_; rintro e w1 ⟨rfl, rfl⟩)
      | (go_at_call 82; refine (hd _).mono ?_; rintro e w1 ⟨rfl, rfl⟩))
    go_ret
    exact ⟨rfl, hb _ _⟩
end Go.Proofs.YtdiogamcjihejaaGreat
