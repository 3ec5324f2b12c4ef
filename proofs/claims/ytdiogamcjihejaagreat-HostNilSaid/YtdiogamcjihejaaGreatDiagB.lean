/- The other calls of package diag. -/
import Derived.Test.YtdiogamcjihejaaGreatDiagA
namespace Go.Proofs.YtdiogamcjihejaaGreat
open Go.RowKit
set_option maxHeartbeats 400000
set_option maxRecDepth 100000

theorem diagNew_any (w : World) : Calls Tryz.prog 71 #[] w fun e w' => ∃ a, e = .returned (.pointer (some ⟨a, 0, none⟩)) ∧ DiagIs w' a [] (fun x => w.heap.size ≤ x ∧ x < w'.heap.size) ∧ Below w.heap.size w w' := by
  have hmm := @run_makeMap Tryz.prog
  go_enter Tryz.func71, Tryz.ntmps71
  go_wp2_with fail
  refine (meterNew_any _).mono ?_
  rintro e w' ⟨rfl, rfl⟩
  go_wp2_with fail
  go_ret
  have hsz : (((w.alloc (.cells (meterCells 0 none) 240)).alloc (.map #[] 0)).alloc (.cells #[.pointer (some ⟨w.heap.size, 0, none⟩), .map (some (w.heap.size + 1)), .slice none 0 0] 180)).heap.size = w.heap.size + 3 := by simp
  refine ⟨w.heap.size + 2, rfl, ⟨fun i r h => by simp at h, w.heap.size, w.heap.size + 1, .slice none 0 0, none, [], ⟨?_, ?_, .inl ⟨rfl, rfl⟩, ?_, by simp, (fun c b h => by cases h), fun c h => rfl, by simp, World.ownsRow_nil _ _ _ _, ?_, ?_, ?_, (fun g h => by cases h), (fun p h => by cases h), (fun p h => by cases h)⟩, (fun c b h => by cases h)⟩, ?_⟩
  · exact Blk.new' _ _ _ (by simp)
  · exact ((Blk.new w _ _).alloc _).alloc _
  · exact (Below.heap_alloc _ _ _ (by simp)).trans (by
      show ((w.alloc (.cells (meterCells 0 none) 240)).heap.push (.map #[] 0))[w.heap.size + 1]? = _
      rw [show w.heap.size + 1 = (w.alloc (.cells (meterCells 0 none) 240)).heap.size by simp, Array.getElem?_push_size]
      rfl)
  · rw [hsz]; omega
  · rw [hsz]; omega
  · rw [hsz]; omega
  · exact (((Below.refl _ _).alloc (Nat.le_refl _) _).alloc (by simp) _).alloc (by simp; omega) _

theorem diagTotal_any (a : Nat) (L : List Rec) (F : Nat → Prop) (w : World) (hD : DiagIs w a L F) (hs : L.length < 1073741823) :
    Calls Tryz.prog 97 #[.pointer (some ⟨a, 0, none⟩)] w fun e w' => e = .returned (.int .i64 L.length) ∧ w' = w := by
  obtain ⟨_, bm, mp, vl, last, cs, D, _⟩ := hD
  have hA0 : ∀ i, w.cell? ⟨a, i, none⟩ = (#[.pointer (some ⟨bm, 0, none⟩), .map (some mp), vl] : Array Value)[i]? := D.self.cell
  go_enter Tryz.func97, Tryz.ntmps97
  go_wp2_with fail
  refine (meterTotal_any bm _ _ _ D.all).mono ?_
  rintro e w' ⟨rfl, rfl⟩
  go_wp2_with fail
  go_ret
  exact ⟨rfl, rfl⟩

theorem kept_length (L : List Rec) : (kept L).length ≤ 16 := by unfold kept; rw [List.length_drop]; omega
theorem diagRecords_any (a : Nat) (L : List Rec) (F : Nat → Prop) (w : World) (hD : DiagIs w a L F) :
    Calls Tryz.prog 96 #[.pointer (some ⟨a, 0, none⟩)] w fun e w' => ∃ v, e = .returned v ∧ w'.ownsRow w.heap.size 193 4 v (kept L).length (recsCells (kept L)) ∧ Below w.heap.size w w' := by
  obtain ⟨_, bm, mp, vl, last, cs, D, _⟩ := hD
  obtain ⟨A, c, rfl⟩ := own_slice D.row
  have hA0 : ∀ i, w.cell? ⟨a, i, none⟩ = (#[.pointer (some ⟨bm, 0, none⟩), .map (some mp), .slice A (kept L).length c] : Array Value)[i]? := D.self.cell
  have hle := kept_length L
  go_enter Tryz.func96, Tryz.ntmps96
  go_wp2_with fail
  refine (cloneRec_any A _ c (recsCells (kept L)) _ ?_ (Reads.of_own D.row) (recsCells_one _) (by omega)).mono ?_
  · rintro rfl
    rcases D.row.2 with ⟨h, _⟩ | ⟨g, cap, cur, h, _⟩
    · injection h
    · injection h with h1; cases h1
  rintro e w' ⟨v, rfl, hown, hb⟩
  go_wp2_with fail
  go_ret
  exact ⟨_, rfl, hown, hb⟩

theorem diagNote_nil (c s k : Int) (w : World) : Calls Tryz.prog 81 #[.pointer none, .int .i64 c, .int .u32 s, .int .u32 k] w fun e w' => e = .returned (.tuple #[.int .i64 0, .int .i64 1]) ∧ w' = w := by
  go_enter Tryz.func81, Tryz.ntmps81
  go_wp2_with fail
  go_ret2
  exact ⟨rfl, rfl⟩
theorem diagNote_ok (a : Nat) (s k : Int) (w : World) : Calls Tryz.prog 81 #[.pointer (some ⟨a, 0, none⟩), .int .i64 0, .int .u32 s, .int .u32 k] w fun e w' => e = .returned (.tuple #[.int .i64 0, .int .i64 2]) ∧ w' = w := by
  go_enter Tryz.func81, Tryz.ntmps81
  go_wp2_with fail
  go_ret2
  exact ⟨rfl, rfl⟩
theorem diagTotal_nil (w : World) : Calls Tryz.prog 97 #[.pointer none] w fun e w' => e = .returned (.int .i64 0) ∧ w' = w := by
  go_enter Tryz.func97, Tryz.ntmps97
  go_wp2_with fail
  go_ret
  exact ⟨rfl, rfl⟩
theorem diagRecords_nil (w : World) : Calls Tryz.prog 96 #[.pointer none] w fun e w' => e = .returned (.slice none 0 0) ∧ w' = w := by
  go_enter Tryz.func96, Tryz.ntmps96
  go_wp2_with fail
  go_ret
  exact ⟨rfl, rfl⟩
end Go.Proofs.YtdiogamcjihejaaGreat
