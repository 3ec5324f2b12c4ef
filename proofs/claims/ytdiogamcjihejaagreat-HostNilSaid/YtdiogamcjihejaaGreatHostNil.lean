/- A nil host. -/
import Derived.Test.YtdiogamcjihejaaGreatHostG
namespace Go.Proofs.YtdiogamcjihejaaGreat
open Go.RowKit
set_option maxHeartbeats 4000000
set_option maxRecDepth 100000

theorem hostSend_nil (w : World) : Calls Tryz.prog 28 #[.pointer none] w fun e w' => e = .returned (.tuple #[.slice none 0 0, .int .i64 1]) ∧ w' = w := by
  go_enter Tryz.func28, Tryz.ntmps28
  go_wp2_with fail
  refine bodyPost_ret (v := .tuple #[.slice none 0 0, .int .i64 1]) (by simp [results, Tryz.results28, go_sem]) rfl ⟨rfl, rfl⟩
theorem hostLog_nil (w : World) : Calls Tryz.prog 39 #[.pointer none] w fun e w' => e = .returned (.tuple #[.slice none 0 0, .int .i64 0]) ∧ w' = w := by
  go_enter Tryz.func39, Tryz.ntmps39
  go_wp2_with fail
  refine bodyPost_ret (v := .tuple #[.slice none 0 0, .int .i64 0]) (by simp [results, Tryz.results39, go_sem]) rfl ⟨rfl, rfl⟩
theorem hostReceive_nil (A : Option Addr) (n c : Nat) (w : World) : Calls Tryz.prog 31 #[.pointer none, .slice A n c] w fun e w' => e = .returned (.int .i64 1) ∧ w' = w := by
  go_enter Tryz.func31, Tryz.ntmps31
  go_wp2_with fail
  go_ret
  exact ⟨rfl, rfl⟩
theorem hostWrite_nil (A : Option Addr) (n c : Nat) (h : Bool) (w : World) : Calls Tryz.prog 25 #[.pointer none, .slice A n c, .bool h] w fun e w' => e = .returned (.int .i64 1) ∧ w' = w := by
  go_enter Tryz.func25, Tryz.ntmps25
  go_wp2_with fail
  go_ret
  exact ⟨rfl, rfl⟩
theorem hostTick_nil (n : Int) (w : World) : Calls Tryz.prog 43 #[.pointer none, .int .i64 n] w fun e w' => e = .returned (.int .i64 1) ∧ w' = w := by
  go_enter Tryz.func43, Tryz.ntmps43
  go_wp2_with fail
  go_ret
  exact ⟨rfl, rfl⟩
theorem hostAck_nil (w : World) : Calls Tryz.prog 44 #[.pointer none] w fun e w' => e = .returned (.int .i64 1) ∧ w' = w := by
  go_enter Tryz.func44, Tryz.ntmps44
  go_wp2_with fail
  go_ret
  exact ⟨rfl, rfl⟩
theorem hostReset_nil (w : World) : Calls Tryz.prog 45 #[.pointer none] w fun e w' => e = .returned (.int .i64 1) ∧ w' = w := by
  go_enter Tryz.func45, Tryz.ntmps45
  go_wp2_with fail
  go_ret
  exact ⟨rfl, rfl⟩
theorem hostCode_nil (w : World) : Calls Tryz.prog 46 #[.pointer none] w fun e w' => e = .returned (.int .u32 0) ∧ w' = w := by
  go_enter Tryz.func46, Tryz.ntmps46
  go_wp2_with fail
  go_ret
  exact ⟨rfl, rfl⟩
theorem hostSee_nil (w : World) : Calls Tryz.prog 33 #[.pointer none] w fun e w' => e = .returned (endVal ⟨0, 0, 0, 0, 0, 0, false, false, []⟩ (.slice none 0 0)) ∧ Below w.heap.size w w' := by
  go_enter Tryz.func33, Tryz.ntmps33
  go_wp2_with fail
  refine bodyPost_ret (v := endVal ⟨0, 0, 0, 0, 0, 0, false, false, []⟩ (.slice none 0 0)) (by simp [results, Tryz.results33, go_sem, endVal]) rfl ⟨rfl, ?_⟩
  exact (Below.refl _ _).alloc (Nat.le_refl _) _
end Go.Proofs.YtdiogamcjihejaaGreat
