/- The other calls of package diag. -/
import Derived.Test.YtialafoofjgchaaDiagA
namespace Go.Proofs.Ytialafoofjgchaa
open Go.RowKit
set_option maxHeartbeats 400000
set_option maxRecDepth 100000

theorem diagNew_any (w : World) : Calls Try.prog 8 #[] w fun e w' => ∃ a, e = .returned (.pointer (some ⟨a, 0, none⟩)) ∧ DiagIs w' a [] (fun x => w.heap.size ≤ x ∧ x < w'.heap.size) ∧ Below w.heap.size w w' := by
  have hmm := @run_makeMap Try.prog
  go_enter Try.func8, Try.ntmps8
  go_wp2_with fail
  refine (meterNew_any _).mono ?_
  rintro e w' ⟨rfl, rfl⟩
  go_wp2_with fail
  go_ret
  have hsz : (((w.alloc (.cells (meterCells 0 none) 80)).alloc (.map #[] 0)).alloc (.cells #[.pointer (some ⟨w.heap.size, 0, none⟩), .map (some (w.heap.size + 1)), .slice none 0 0] 57)).heap.size = w.heap.size + 3 := by simp
  refine ⟨w.heap.size + 2, rfl, ⟨fun i r h => by simp at h, w.heap.size, w.heap.size + 1, .slice none 0 0, none, [], ⟨?_, ?_, .inl ⟨rfl, rfl⟩, ?_, by simp, (fun c b h => by cases h), fun c h => rfl, by simp, World.ownsRow_nil _ _ _ _, ?_, ?_, ?_, (fun g h => by cases h), (fun p h => by cases h), (fun p h => by cases h)⟩, (fun c b h => by cases h)⟩, ?_⟩
  · exact Blk.new' _ _ _ (by simp)
  · exact ((Blk.new w _ _).alloc _).alloc _
  · exact (Below.heap_alloc _ _ _ (by simp)).trans (by
      show ((w.alloc (.cells (meterCells 0 none) 80)).heap.push (.map #[] 0))[w.heap.size + 1]? = _
      rw [show w.heap.size + 1 = (w.alloc (.cells (meterCells 0 none) 80)).heap.size by simp, Array.getElem?_push_size]
      rfl)
  · rw [hsz]; omega
  · rw [hsz]; omega
  · rw [hsz]; omega
  · exact (((Below.refl _ _).alloc (Nat.le_refl _) _).alloc (by simp) _).alloc (by simp; omega) _

theorem diagTotal_any (a : Nat) (L : List Rec) (F : Nat → Prop) (w : World) (hD : DiagIs w a L F) (hs : L.length < 1073741823) :
    Calls Try.prog 11 #[.pointer (some ⟨a, 0, none⟩)] w fun e w' => e = .returned (.int .i64 L.length) ∧ w' = w := by
  obtain ⟨_, bm, mp, vl, last, cs, D, _⟩ := hD
  have hA0 : ∀ i, w.cell? ⟨a, i, none⟩ = (#[.pointer (some ⟨bm, 0, none⟩), .map (some mp), vl] : Array Value)[i]? := D.self.cell
  go_enter Try.func11, Try.ntmps11
  go_wp2_with fail
  refine (meterTotal_any bm _ _ _ D.all).mono ?_
  rintro e w' ⟨rfl, rfl⟩
  go_wp2_with fail
  go_ret
  exact ⟨rfl, rfl⟩

theorem diagCount_any (a : Nat) (L : List Rec) (F : Nat → Prop) (code : Int) (w : World) (hD : DiagIs w a L F) (hs : L.length < 1073741823) :
    Calls Try.prog 13 #[.pointer (some ⟨a, 0, none⟩), .int .i64 code] w fun e w' => e = .returned (.int .i64 (cnt code L)) ∧ w' = w := by
  obtain ⟨_, bm, mp, vl, last, cs, D, _⟩ := hD
  have hA0 : ∀ i, w.cell? ⟨a, i, none⟩ = (#[.pointer (some ⟨bm, 0, none⟩), .map (some mp), vl] : Array Value)[i]? := D.self.cell
  have hlook := D.map.run_lookup (P := Try.prog) Try.underlying55 Try.underlying26 (zero_ptr w) code
  have hle : cnt code L ≤ L.length := List.length_filter_le _ _
  cases hb : lk cs code with
  | none =>
    rw [lkv, hb] at hlook
    simp only [Option.map_none] at hlook
    have h0 := Lib.hid (D.none_ _ hb)
    clear hb
    go_enter Try.func13, Try.ntmps13
    go_wp2_with fail
    refine (meterTotal_nil _).mono ?_
    rintro e w' ⟨rfl, rfl⟩
    go_wp2_with fail
    go_ret
    exact ⟨by rw [h0.out]; rfl, rfl⟩
  | some b =>
    rw [lkv, hb] at hlook
    simp only [Option.map_some] at hlook
    obtain ⟨_, _, hB⟩ := D.cntr _ _ hb
    clear hb
    go_enter Try.func13, Try.ntmps13
    go_wp2_with fail
    refine (meterTotal_any b _ _ _ hB).mono ?_
    rintro e w' ⟨rfl, rfl⟩
    go_wp2_with fail
    go_ret
    exact ⟨rfl, rfl⟩

theorem kept_length (L : List Rec) : (kept L).length ≤ 16 := by unfold kept; rw [List.length_drop]; omega
theorem diagRecords_any (a : Nat) (L : List Rec) (F : Nat → Prop) (w : World) (hD : DiagIs w a L F) :
    Calls Try.prog 10 #[.pointer (some ⟨a, 0, none⟩)] w fun e w' => ∃ v, e = .returned v ∧ w'.ownsRow w.heap.size 34 4 v (kept L).length (recsCells (kept L)) ∧ Below w.heap.size w w' := by
  obtain ⟨_, bm, mp, vl, last, cs, D, _⟩ := hD
  obtain ⟨A, c, rfl⟩ := own_slice D.row
  have hA0 : ∀ i, w.cell? ⟨a, i, none⟩ = (#[.pointer (some ⟨bm, 0, none⟩), .map (some mp), .slice A (kept L).length c] : Array Value)[i]? := D.self.cell
  have hle := kept_length L
  go_enter Try.func10, Try.ntmps10
  go_wp2_with fail
  refine (cloneRec_any A _ c (recsCells (kept L)) _ ?_ (Reads.of_own D.row) (recsCells_one _) (by omega)).mono ?_
  · rintro rfl
    rcases D.row.2 with ⟨h, _⟩ | ⟨g, cap, cur, h, _⟩
    · injection h
    · injection h with h1; cases h1
  rintro e w' ⟨v, rfl, hown, hb⟩
  go_wp2_with fail
  go_ret
  exact ⟨_, rfl, hown, hb⟩

theorem diagLast_any (a : Nat) (L : List Rec) (F : Nat → Prop) (w : World) (hD : DiagIs w a L F) :
    Calls Try.prog 14 #[.pointer (some ⟨a, 0, none⟩)] w fun e w' => e = .returned (lastVal L.getLast?) ∧ Below w.heap.size w w' := by
  obtain ⟨_, bm, mp, vl, last, cs, D, _⟩ := hD
  have hA0 : ∀ i, w.cell? ⟨a, i, none⟩ = (#[.pointer (some ⟨bm, 0, none⟩), .map (some mp), vl] : Array Value)[i]? := D.self.cell
  have hA1 := fun (W : World) (hlt : a < W.heap.size) => cellA hlt
  have halt := D.self.lt
  have D1 := D.keep ((Keep.refl (fun _ => False) w).alloc (.cells #[.int .i64 0, .int .i64 0, .int .u32 0, .int .u32 0] 34)) (fun _ _ h => h) (fun _ h => h)
  have hlst := D1.lst
  have hall := D1.all
  clear D D1
  generalize L.getLast? = r at hlst ⊢
  go_enter Try.func14, Try.ntmps14
  go_wp2_with fail
  refine (meterLast_any bm _ _ _ _ hall hlst).mono ?_
  rintro e w' ⟨rfl, hb⟩
  have hB := (Blk.new w 34 #[.int .i64 0, .int .i64 0, .int .u32 0, .int .u32 0]).keep (S := fun _ => False) (Keep.of_below hb) (fun h => h)
  have hC := hB.cell
  have hZ := hB.frozen
  have hb0 : Below w.heap.size w w' := ((Below.refl _ _).alloc (Nat.le_refl _) _).trans (hb.mono (by simp))
  clear hA0 hA1 halt hlst hall hb
  cases r with
  | none =>
    unfold lastVal Rec.zero Rec.cells
    go_wp2_with fail
    refine bodyPost_ret (v := .tuple #[.agg #[.int .i64 0, .int .i64 0, .int .u32 0, .int .u32 0], .bool false]) (by simp [results, Try.results14, go_sem, hC]) rfl ⟨rfl, ?_⟩
    exact (((hb0.setCell (Nat.le_refl _) _).setCell (Nat.le_refl _) _).setCell (Nat.le_refl _) _).setCell (Nat.le_refl _) _
  | some x =>
    unfold lastVal Rec.cells
    go_wp2_with fail
    refine bodyPost_ret (v := .tuple #[.agg #[.int .i64 x.at_, .int .i64 x.code, .int .u32 x.s, .int .u32 x.k], .bool true]) (by simp [results, Try.results14, go_sem, hC]) rfl ⟨rfl, ?_⟩
    exact (((hb0.setCell (Nat.le_refl _) _).setCell (Nat.le_refl _) _).setCell (Nat.le_refl _) _).setCell (Nat.le_refl _) _

/-! A nil diag. -/
theorem diagNote_nil (c s k : Int) (w : World) : Calls Try.prog 9 #[.pointer none, .int .i64 c, .int .u32 s, .int .u32 k] w fun e w' => e = .returned (.tuple #[.int .i64 0, .int .i64 1]) ∧ w' = w := by
  go_enter Try.func9, Try.ntmps9
  go_wp2_with fail
  go_ret2
  exact ⟨rfl, rfl⟩
theorem diagNote_ok (a : Nat) (s k : Int) (w : World) : Calls Try.prog 9 #[.pointer (some ⟨a, 0, none⟩), .int .i64 0, .int .u32 s, .int .u32 k] w fun e w' => e = .returned (.tuple #[.int .i64 0, .int .i64 2]) ∧ w' = w := by
  go_enter Try.func9, Try.ntmps9
  go_wp2_with fail
  go_ret2
  exact ⟨rfl, rfl⟩
theorem diagTotal_nil (w : World) : Calls Try.prog 11 #[.pointer none] w fun e w' => e = .returned (.int .i64 0) ∧ w' = w := by
  go_enter Try.func11, Try.ntmps11
  go_wp2_with fail
  go_ret
  exact ⟨rfl, rfl⟩
theorem diagCount_nil (c : Int) (w : World) : Calls Try.prog 13 #[.pointer none, .int .i64 c] w fun e w' => e = .returned (.int .i64 0) ∧ w' = w := by
  go_enter Try.func13, Try.ntmps13
  go_wp2_with fail
  go_ret
  exact ⟨rfl, rfl⟩
theorem diagRecords_nil (w : World) : Calls Try.prog 10 #[.pointer none] w fun e w' => e = .returned (.slice none 0 0) ∧ w' = w := by
  go_enter Try.func10, Try.ntmps10
  go_wp2_with fail
  go_ret
  exact ⟨rfl, rfl⟩
theorem diagCodes_nil (w : World) : Calls Try.prog 12 #[.pointer none] w fun e w' => e = .returned (.slice none 0 0) ∧ w' = w := by
  go_enter Try.func12, Try.ntmps12
  go_wp2_with fail
  go_ret
  exact ⟨rfl, rfl⟩
theorem diagLast_nil (w : World) : Calls Try.prog 14 #[.pointer none] w fun e w' => e = .returned (lastVal none) ∧ Below w.heap.size w w' := by
  go_enter Try.func14, Try.ntmps14
  go_wp2_with fail
  refine bodyPost_ret (v := .tuple #[.agg #[.int .i64 0, .int .i64 0, .int .u32 0, .int .u32 0], .bool false]) (by simp [results, Try.results14, go_sem]) rfl ⟨rfl, ?_⟩
  exact (Below.refl _ _).alloc (Nat.le_refl _) _
end Go.Proofs.Ytialafoofjgchaa
