/- The base of the laws, part 32: contracts and plain lemmas, no statement. -/
import Derived.Test.YtlldgfejcjnpkaaGreatBase2
import Derived.Test.YtlldgfejcjnpkaaGreatBase7
import Derived.Test.YtlldgfejcjnpkaaGreatBase8
import Derived.Test.YtlldgfejcjnpkaaGreatBase10
import Derived.Test.YtlldgfejcjnpkaaGreatBase14
import Derived.Test.YtlldgfejcjnpkaaGreatBase25
import Derived.Test.YtlldgfejcjnpkaaGreatBase27
import Derived.Test.YtlldgfejcjnpkaaGreatBase30
set_option linter.unusedVariables false
/- parapetlaw13: frame, Awake; a new memory. -/
namespace Go.Proofs.YtlldgfejcjnpkaaGreat
open Go.RowKit
set_option maxHeartbeats 10000000
set_option maxRecDepth 100000

/-- A new memory of 16 bytes. -/
def mem16 : MemM := ⟨List.replicate 16 0, false, false, 0, 0⟩
theorem memNew16_any (w : World) : Calls Tryz.prog 10 #[.int .i64 16] w fun e w' => ∃ mb, e = .returned (.tuple #[.pointer (some ⟨mb, 0, none⟩), .int .i64 0]) ∧ MemIs w' mb mem16 (fun x => w.heap.size ≤ x ∧ x < w'.heap.size) ∧ Below w.heap.size w w' := by
  have hmk : ∀ W : World, (Instr.makeSlice 22 (.int .i64 16) (.int .i64 16)).run Tryz.prog W = .ok (.slice (some ⟨W.heap.size, 0, none⟩) 16 16) (W.alloc (.cells (madeCells #[.int .u8 0] 16) 5)) := run_make_row' (P := Tryz.prog) 22 5 (.int .u8 0) 1 Tryz.underlying22 byte_info rfl .i64 .i64 16 (by omega) (by omega)
  have hmade := own_made w 16 (by omega)
  go_enter Tryz.func10, Tryz.ntmps10
  go_wp2_with fail
  refine bodyPost_ret (v := .tuple #[.pointer (some ⟨w.heap.size + 1, 0, none⟩), .int .i64 0]) (by simp [results, Tryz.results10, go_sem]) rfl ⟨w.heap.size + 1, rfl, ⟨.slice (some ⟨w.heap.size, 0, none⟩) 16 16, 0, ?_⟩, ((Below.refl _ w).alloc (Nat.le_refl _) _).alloc (by simp) _⟩
  exact {
    blk := Blk.new' (w.alloc _) _ _ (by simp)
    bytes := own_base (own_below hmade ((Below.refl _ _).alloc (Nat.le_refl _) _)) (Nat.zero_le _)
    fb := by simp
    fr := fun x hx => by simp [Value.ownBlock] at hx; simp; omega
    len := by decide
    left := by simp [mem16] }
end Go.Proofs.YtlldgfejcjnpkaaGreat
