/- parapetlaw16's step, whole. -/
import Derived.Test.YtlldgfejcjnpkaaGreatCMuxStepT
set_option linter.unusedVariables false
namespace Go.Proofs.YtlldgfejcjnpkaaGreat
open Go.RowKit
set_option maxHeartbeats 10000000
set_option maxRecDepth 100000

theorem l16step_none (B k z x y : Nat) (R : List PRow) (Q : List QRow) (lost : Int) (F G U : Nat → Prop) (place : Int) (o : OpM) (v : Value) (w : World) (h : MuxW B w z x y R Q lost F G U k) (h20 : o.kind ≠ 20) (h0 : R.length = 0) :
    Calls Tryz.prog 42 #[.pointer (some ⟨z, 0, none⟩), popVal place o v] w fun e w' => e = .returned (.bool true) ∧ StepAns B z x y R Q U k w w' := by
  obtain ⟨kind, on_, flags, odd, data, at_, word⟩ := o
  simp only at h20
  have hB := h.h.prog.Ble
  have hbO := (Below.refl w.heap.size w).alloc (Nat.le_refl _) (.cells #[.int .i64 place, .int .i64 kind, .int .i64 on_, .int .i64 flags, .bool odd, v, .int .i64 at_, .int .u32 word] 97)
  have hO := Blk.new w 97 #[.int .i64 place, .int .i64 kind, .int .i64 on_, .int .i64 flags, .bool odd, v, .int .i64 at_, .int .u32 word]
  have h1 := h.below hbO
  obtain ⟨vd, vm, Ar, cr, hZ, hUz, hrow⟩ := h1.refs
  rw [h0] at hZ
  have g20 : (kind == 20) = false := by simpa using h20
  unfold popVal
  simp only
  clear h hrow h20
  go_enter Tryz.func42, Tryz.ntmps42
  go_upto_region 1 with fail
  obtain ⟨o0, Ho0⟩ : ∃ e, Hid (e = w.heap.size) := ⟨_, Lib.hid rfl⟩
  rw [← Ho0.out] at hO ⊢
  generalize w.alloc (.cells _ 97) = W1 at *
  have hoc := hO.cell
  have Hfin : Hid (StepAns B z x y R Q U k w W1) := Lib.hid ⟨R, Q, lost, F, G, h1.more, Likes.refl R Q, hbO.mono hB⟩
  have hcz := hZ.cell
  clear h1 h0
  go_wp2_with fail
  refine bodyPost_ret (v := .bool true) (by simp [results, Tryz.results42, go_sem]) rfl ⟨rfl, Hfin.out⟩
/-- One step, on both. -/
theorem l16step_any (B k z x y : Nat) (R : List PRow) (Q : List QRow) (lost : Int) (F G U : Nat → Prop) (place : Int) (o : OpM) (A : Option Addr) (c : Nat) (w : World) (h : MuxW B w z x y R Q lost F G U k) (hk : k ≤ 1000000) (ho : o.Ok) (hr : Reads w B 1 A o.data.length (u8c o.data)) (hoc : o.data.length ≤ c) (hod : o.data.length ≤ 140737488351232) :
    Calls Tryz.prog 42 #[.pointer (some ⟨z, 0, none⟩), popVal place o (.slice A o.data.length c)] w fun e w' => e = .returned (.bool true) ∧ StepAns B z x y R Q U k w w' := by
  by_cases h20 : o.kind = 20
  · exact l16step_tick B k z x y R Q lost F G U place o _ w h hk h20
  · rcases Nat.eq_zero_or_pos R.length with h0 | h0
    · exact l16step_none B k z x y R Q lost F G U place o _ w h h20 h0
    · exact l16step_one B k z x y R Q lost F G U place o A c w h hk ho hr hoc hod h20 h0
end Go.Proofs.YtlldgfejcjnpkaaGreat
