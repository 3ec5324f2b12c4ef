/- Awake, and the law DiagNil. -/
import Derived.Test.YtialafoofjgchaaDiagB
namespace Go.Proofs.Ytialafoofjgchaa
open Go.RowKit
set_option maxHeartbeats 400000
set_option maxRecDepth 100000

theorem awake12 (w : World) : Calls Try.prog 7 #[] w fun e w' => e = .returned (.bool true) ∧ Below w.heap.size w w' := by
  have heq : ∀ W, (binOp .eql 34 (.agg #[.int .i64 1, .int .i64 100, .int .u32 3, .int .u32 7]) (.agg #[.int .i64 1, .int .i64 100, .int .u32 3, .int .u32 7])).run Try.prog W = .ok (.bool true) W := fun _ => by kernel_rfl
  go_enter Try.func7, Try.ntmps7
  go_wp2_with fail
  refine (diagNew_any _).mono ?_
  rintro e w1 ⟨a, rfl, hD, hb⟩
  go_wp2_with fail
  refine (diagNote_any a [] _ 100 3 7 _ rfl hD (by simp)).mono ?_
  rintro e w2 ⟨rfl, hD2, hk2⟩
  go_wp2_with fail
  refine (diagLast_any a _ _ _ hD2).mono ?_
  rintro e w3 ⟨rfl, hb3⟩
  have e3 : lastVal (List.getLast? ([] ++ [(⟨(([] : List Rec).length : Int) + 1, 100, 3, 7⟩ : Rec)])) = .tuple #[.agg #[.int .i64 1, .int .i64 100, .int .u32 3, .int .u32 7], .bool true] := rfl
  rw [e3]
  clear e3
  go_wp2_with fail
  refine (diagTotal_any a _ _ _ ((hD2.below hb3).below ((Below.refl _ _).alloc (Nat.le_refl _) _)) (by simp)).mono ?_
  rintro e w4 ⟨rfl, rfl⟩
  go_wp2_with fail
  go_ret
  refine ⟨rfl, ?_⟩
  have h2 := hk2.size
  have b2 : Below w.heap.size w1 w2 := hk2.below hb.size (fun b h => h.1)
  have b3 : Below w.heap.size w2 w3 := hb3.mono (Nat.le_trans hb.size h2)
  exact (hb.trans (b2.trans b3)).alloc (Nat.le_trans hb.size (Nat.le_trans h2 hb3.size)) _

theorem diagNil_any (at_ c s k : Int) (w : World) : Calls Try.prog 4 #[.agg #[.int .i64 at_, .int .i64 c, .int .u32 s, .int .u32 k]] w fun e w' => e = .returned (.bool true) ∧ Below w.heap.size w w' := by
  have heq : ∀ W, (binOp .eql 34 (.agg #[.int .i64 0, .int .i64 0, .int .u32 0, .int .u32 0]) (.agg #[.int .i64 0, .int .i64 0, .int .u32 0, .int .u32 0])).run Try.prog W = .ok (.bool true) W := fun _ => by kernel_rfl
  go_enter Try.func4, Try.ntmps4
  go_wp2_with fail
  refine (awake12 _).mono ?_
  rintro e w1 ⟨rfl, hb1⟩
  have hC1 : ∀ i, w1.cell? ⟨w.heap.size, i, none⟩ = (#[.int .i64 at_, .int .i64 c, .int .u32 s, .int .u32 k] : Array Value)[i]? := ((Blk.new w 34 _).keep (S := fun _ => False) (Keep.of_below hb1) (fun h => h)).cell
  have b1 : Below w.heap.size w w1 := ((Below.refl _ _).alloc (Nat.le_refl _) _).trans (hb1.mono (by simp))
  have hlt1 : w.heap.size < w1.heap.size := by have := hb1.size; simp at this; omega
  clear hb1
  go_wp2_with fail
  refine (diagNote_nil _ _ _ _).mono ?_
  rintro e w' ⟨rfl, rfl⟩
  go_wp2_with fail
  refine (diagLast_nil _).mono ?_
  rintro e w2 ⟨rfl, hb2⟩
  have hC2 : ∀ i, w2.cell? ⟨w.heap.size, i, none⟩ = (#[.int .i64 at_, .int .i64 c, .int .u32 s, .int .u32 k] : Array Value)[i]? := fun i => (hb2.cell (p := ⟨w.heap.size, i, none⟩) hlt1).trans (hC1 i)
  have b2 : Below w.heap.size w w2 := b1.trans (hb2.mono b1.size)
  have hlt2 : w.heap.size < w2.heap.size := Nat.lt_of_lt_of_le hlt1 hb2.size
  have hA2 := fun (W : World) (hlt : w.heap.size < W.heap.size) => cellA hlt
  have e3 : lastVal none = .tuple #[.agg #[.int .i64 0, .int .i64 0, .int .u32 0, .int .u32 0], .bool false] := rfl
  rw [e3]
  clear e3 hb2 hC1
  go_wp2_with fail
  refine (diagCount_nil _ _).mono ?_
  rintro e w' ⟨rfl, rfl⟩
  go_wp2_with fail
  refine (diagTotal_nil _).mono ?_
  rintro e w' ⟨rfl, rfl⟩
  go_wp2_with fail
  refine (diagRecords_nil _).mono ?_
  rintro e w' ⟨rfl, rfl⟩
  go_wp2_with fail
  refine (diagCodes_nil _).mono ?_
  rintro e w' ⟨rfl, rfl⟩
  go_wp2_with fail
  go_ret
  exact ⟨rfl, b2.alloc b2.size _⟩
end Go.Proofs.Ytialafoofjgchaa
