/- Lists with spare room (parapethand): Spare, Kept, mark. -/
import Derived.Test.YtfoldlbnkfnenaaGreatBase14
import Derived.Laws.CopyOwn
import Derived.Deep.RegionHeld3
namespace Go.Proofs.YtfoldlbnkfnenaaGreat
open Go.RowKit
set_option maxHeartbeats 10000000
set_option maxRecDepth 100000

theorem mark_any (i k : Nat) (w : World) (hi : i < 100000000) (hk : k < 100000000) : Calls Tryz.prog 58 #[.int .i64 i, .int .i64 k] w fun e w' => e = .returned (.int .u8 ((17 * (i : Int) + 5 * (k : Int) + 3) % 256)) ∧ w' = w := by
  have h1 : IntKind.i64.wrap (17 * (i : Int)) = 17 * (i : Int) := IntWalk.i64_in _ (by omega)
  have h2 : IntKind.i64.wrap (5 * (k : Int)) = 5 * (k : Int) := IntWalk.i64_in _ (by omega)
  have h3 : IntKind.i64.wrap (17 * (i : Int) + 5 * (k : Int)) = 17 * (i : Int) + 5 * (k : Int) := IntWalk.i64_in _ (by omega)
  have h4 : IntKind.i64.wrap (17 * (i : Int) + 5 * (k : Int) + 3) = 17 * (i : Int) + 5 * (k : Int) + 3 := IntWalk.i64_in _ (by omega)
  go_enter Tryz.func58, Tryz.ntmps58
  go_wp2_with fail
  go_ret
  exact ⟨rfl, rfl⟩
/-- make of a length. -/
theorem run_full {t e : TypeId} {z : Value} (ht : (Tryz.prog).underlying t = some (.slice e)) (hinfo : ((Tryz.prog).info? e).map (fun i => (i.zero, i.size, i.bytes)) = some (some z, 1, 1)) (hz1 : z.cells = #[z]) (c : Nat) (hc : c ≤ 140737488355328) (w : World) :
    (Instr.makeSlice t (.int .i64 (c : Int)) (.int .i64 (c : Int))).run Tryz.prog w = .ok (.slice (some ⟨w.heap.size, 0, none⟩) c c) (w.alloc (.cells (madeCells #[z] c) e)) := by
  obtain ⟨i, hi, hzz⟩ := Option.map_eq_some_iff.1 hinfo
  simp only [Prod.mk.injEq] at hzz
  obtain ⟨hz, hs, hb⟩ := hzz
  have hr := run_make (P := Tryz.prog) w t e i z ht hi hz .i64 .i64 c c (by omega) (Int.le_refl _) (by rw [hb]; omega) (by omega)
  simp only [Int.toNat_natCast, hs, Nat.mul_one, hz1] at hr
  exact hr
/-- What Spare lays behind the bytes: place k of all that memory. -/
def spareAt (l : List UInt8) (j k : Nat) : Value := if k < l.length then .int .u8 ((l.getD k 0).toNat : Int) else if k < l.length + j then .int .u8 ((201 + (k : Int)) % 256) else .int .u8 0
def spareTo (l : List UInt8) (j : Nat) : List Value := (List.range (l.length + 9)).map (spareAt l j)
theorem spareTo_length (l : List UInt8) (j : Nat) : (spareTo l j).length = l.length + 9 := by simp [spareTo]
theorem spareTo_get (l : List UInt8) (j k : Nat) (hk : k < l.length + 9) : (spareTo l j)[k]? = some (spareAt l j k) := by simp [spareTo, hk]
theorem spareTo_set (l : List UInt8) (j : Nat) (hj : j < 9) : (spareTo l j).set (l.length + j) (.int .u8 ((201 + ((l.length + j : Nat) : Int)) % 256)) = spareTo l (j + 1) := by
  apply List.ext_getElem?
  intro k
  rcases Nat.lt_or_ge k (l.length + 9) with hk | hk
  · rw [spareTo_get l (j + 1) k hk]
    by_cases he : l.length + j = k
    · subst he
      rw [List.getElem?_set_self (by rw [spareTo_length]; omega)]
      unfold spareAt
      rw [if_neg (by omega), if_pos (by omega)]
    · rw [List.getElem?_set_ne he, spareTo_get l j k hk]
      unfold spareAt
      split
      · rfl
      · by_cases h2 : k < l.length + j
        · rw [if_pos h2, if_pos (by omega)]
        · rw [if_neg h2, if_neg (by omega)]
  · rw [List.getElem?_eq_none (by simp [spareTo_length]; omega), List.getElem?_eq_none (by rw [spareTo_length]; omega)]
theorem spareTo_zero (l : List UInt8) (cur : List Value) (hc : cur = List.replicate (l.length + 9) (.int .u8 0)) : splice cur 0 (u8c l) = spareTo l 0 := by
  subst hc
  apply List.ext_getElem?
  intro k
  unfold splice
  rcases Nat.lt_or_ge k (l.length + 9) with hk | hk
  · rw [spareTo_get l 0 k hk]
    unfold spareAt
    have hul : (u8c l).length = l.length := u8c_length l
    simp only [List.take_zero, List.nil_append, Nat.zero_add]
    by_cases h : k < l.length
    · rw [if_pos h, List.getElem?_append_left (by omega)]
      simp [u8c, h]
    · rw [if_neg h, if_neg (by omega), List.getElem?_append_right (by omega), List.getElem?_drop, List.getElem?_replicate, if_pos (by omega)]
  · rw [List.getElem?_eq_none (by simp [u8c]; omega), List.getElem?_eq_none (by rw [spareTo_length]; omega)]
theorem own_prefix {w : World} {base : Nat} {e : TypeId} {g n m c : Nat} {xs : List Value} (h : w.ownsRow base e 1 (.slice (some ⟨g, 0, none⟩) m c) m xs) (hn : n ≤ m) : w.ownsRow base e 1 (.slice (some ⟨g, 0, none⟩) n c) n (xs.take n) := by
  obtain ⟨hl, h⟩ := h
  refine ⟨by rw [List.length_take, hl]; omega, ?_⟩
  rcases h with ⟨h, _⟩ | ⟨g', cap, cur, h, hb, hg, hnc, hm, hs, hx⟩
  · cases h
  · injection h with h1 h2 h3
    injection h1 with h1
    injection h1 with h1
    subst h1 h3
    refine .inr ⟨g, c, cur, rfl, hb, hg, by omega, hm, hs, ?_⟩
    rw [← hx, List.take_take]
    congr 1
    omega
theorem spare_any (A : Option Addr) (n c B : Nat) (l : List UInt8) (w : World) (hr : Reads w B 1 A n (u8c l)) (hB : B ≤ w.heap.size) (hn : n ≤ 1000000) :
    Calls Tryz.prog 15 #[.slice A n c] w fun e w' => e = .returned (.tuple #[.slice (some ⟨w.heap.size, 0, none⟩) n (n + 9), .slice (some ⟨w.heap.size, 0, none⟩) (n + 9) (n + 9)]) ∧ w'.ownsRow w.heap.size 5 1 (.slice (some ⟨w.heap.size, 0, none⟩) (n + 9) (n + 9)) (n + 9) (spareTo l 9) ∧ Below w.heap.size w w' := by
  have hl : l.length = n := by have := hr.1; simpa [u8c] using this
  have Hl := Lib.hid hl
  have hmk := fun w => run_full (t := 22) (z := .int .u8 0) Tryz.underlying22 byte_info rfl (n + 9) (by omega) w
  have hw9 : IntKind.i64.wrap ((n : Int) + 9) = (n : Int) + 9 := IntWalk.i64_in _ (by omega)
  rw [show ((n + 9 : Nat) : Int) = (n : Int) + 9 by simp] at hmk
  have hbM := (Below.refl w.heap.size w).alloc (Nat.le_refl _) (.cells (madeCells #[.int .u8 0] (n + 9)) 5)
  have hgM : (w.alloc (.cells (madeCells #[.int .u8 0] (n + 9)) 5)).heap[w.heap.size]? = some (.cells (madeCells #[.int .u8 0] (n + 9)).toList.toArray 5 (0, 0)) := by simpa using heap_alloc_new w (.cells (madeCells #[.int .u8 0] (n + 9)) 5)
  have hrM := hr.alloc hB (.cells (madeCells #[.int .u8 0] (n + 9)) 5)
  have hcur : (madeCells #[Value.int .u8 0] (n + 9)).toList = List.replicate (l.length + 9) (.int .u8 0) := by rw [toList_madeCells_one, hl]
  have hsz : (Tryz.prog.info? 5).map (·.size) = some 1 := by kernel_rfl
  clear hl
  go_enter Tryz.func15, Tryz.ntmps15
  go_upto_region 2 with fail
  clear hmk
  generalize madeCells #[Value.int .u8 0] (n + 9) = mk at *
  generalize w.alloc (.cells mk 5) = w1 at *
  go_wp2_with (refine wpList_copy_splice (o := ⟨some 12, _, _, _, _, _⟩) rfl (.tmp 10) (.tmp 11) 22 22 rfl 5 Tryz.underlying22 hsz _ A (n + 9) (n + 9) n c rfl rfl w.heap.size 0 mk.toList 5 hgM (u8c l) (by rw [u8c_length, Hl.out]; exact (Nat.min_eq_left (by omega)).symm) (fun h => ⟨rfl, by obtain ⟨ad, h1, h2, h3⟩ := hrM.2 (by rw [u8c_length, Hl.out] at h; exact h); exact ⟨ad, h1, h3⟩⟩) (by rw [hcur, u8c_length]; simp) (u8c_one l) w.heap.size w hbM (Nat.le_refl _) ?_; intro w2 hg2 hb2)
  obtain ⟨g, Hg⟩ : ∃ g, Hid (g = w.heap.size) := ⟨_, Lib.hid rfl⟩
  have hg0 : Blk w2 g 5 (spareTo l 0).toArray := by
    have h := hg2.out
    rw [spareTo_zero l _ hcur, ← Hg.out] at h
    exact h
  clear hg2 hgM hrM hcur hbM
  rw [← Hg.out]
  generalize w1.heap.size = z1 at *
  clear hr
  go_loopg [5] 9 (fun q v5 wr => ∃ j : Nat, v5 = .int .i64 ((n + j : Nat) : Int) ∧ j + q = 9 ∧ Blk wr g 5 (spareTo l j).toArray ∧ Below w.heap.size w wr)
  case atStart => exact ⟨0, rfl, by omega, hg0, hb2⟩
  case round =>
    clear hg0 hb2
    obtain ⟨j, rfl, hq, hb, hB2⟩ := hrel
    by_cases hj : j < 9
    · have hlt : ((n + j : Nat) : Int) < ((n : Int) + 9) := by omega
      have Hq := Lib.hid hq
      have hcell : w.heap.size ≤ g := by have := Hg.out; omega
      have hc := hb.cell (n + j)
      have hf := hb.frozen
      have hl := Hl.out
      rw [List.getElem?_toArray, spareTo_get l j (n + j) (by omega)] at hc
      have hnx := hb.set_ (n + j) (.int .u8 ((201 + ((n + j : Nat) : Int)) % 256))
      rw [List.setIfInBounds_toArray] at hnx
      rw [show n + j = l.length + j by omega] at hnx
      rw [spareTo_set l j hj, show l.length + j = n + j by omega] at hnx
      have hwj : IntKind.i64.wrap (201 + ((n + j : Nat) : Int)) = 201 + ((n + j : Nat) : Int) := IntWalk.i64_in _ (by omega)
      have hBx := hB2.setCell (p := ⟨g, n + j, none⟩) hcell (.int .u8 ((201 + ((n + j : Nat) : Int)) % 256))
      clear hq hl
      generalize hk : n + j = k at *
      have Hk := Lib.hid hk
      clear hk
      go_wp2_with fail
      go_roundg (9 - (j + 1))
      case measure => have := Hq.out; omega
      case rel => have := Hq.out; have := Hk.out; exact ⟨j + 1, by rw [show ((n + (j + 1) : Nat) : Int) = (k : Int) + 1 by omega], by omega, hnx, hBx⟩
    · obtain rfl : j = 9 := by omega
      have hge : ¬ ((n + 9 : Nat) : Int) < (n : Int) + 9 := by omega
      have hl := Hl.out
      have hown : wr.ownsRow w.heap.size 5 1 (.slice (some ⟨g, 0, none⟩) (n + 9) (n + 9)) (n + 9) (spareTo l 9) :=
        ⟨by rw [spareTo_length]; omega, .inr ⟨g, n + 9, (spareTo l 9).toArray, rfl, by have := Hg.out; omega, hb, Nat.le_refl _, by unfold maxLen; omega, by simp [spareTo_length]; omega, by rw [List.take_of_length_le (by simp [spareTo_length]; omega)]⟩⟩
      clear hb hl hq hj
      go_wp2_with fail
      refine bodyPost_ret (v := .tuple #[.slice (some ⟨g, 0, none⟩) n (n + 9), .slice (some ⟨g, 0, none⟩) (n + 9) (n + 9)]) (by simp [results, Tryz.results15, go_sem]) rfl ⟨by rw [Hg.out], by have h := hown; rw [Hg.out] at h; exact h, hB2⟩
theorem kept_any (Aw A : Option Addr) (n cw c B : Nat) (l : List UInt8) (w : World) (hw : Reads w B 1 Aw (n + 9) (spareTo l 9)) (hr : Reads w B 1 A n (u8c l)) (hcw : n + 9 ≤ cw) (hn : n ≤ 1000000) :
    Calls Tryz.prog 18 #[.slice Aw (n + 9) cw, .slice A n c] w fun e w' => e = .returned (.bool true) ∧ ∃ k, w' = w.drewN k := by
  have hl : l.length = n := by have := hr.1; simpa [u8c] using this
  obtain ⟨ad, rfl, hab, hcell⟩ := hw.2 (by omega)
  have hrp : Reads w B 1 (some ad) n (u8c l) := by
    refine ⟨by rw [u8c_length]; omega, fun h0 => ⟨ad, rfl, hab, fun j u hu => ?_⟩⟩
    have hj : j < l.length := by
      have := (List.getElem?_eq_some_iff.1 hu).1
      rwa [u8c_length] at this
    refine hcell j u ?_
    rw [spareTo_get l 9 j (by omega)]
    unfold spareAt
    rw [if_pos hj]
    simpa [u8c, hj] using hu
  have hc1 := conv_reads (c := cw) hrp.drew
  have hc2 := conv_reads (c := c) hr.drew
  have Hl := Lib.hid hl
  have hw9 : IntKind.i64.wrap ((n : Int) + 9) = (n : Int) + 9 := IntWalk.i64_in _ (by omega)
  clear hl hrp hw hr
  go_enter Tryz.func18, Tryz.ntmps18
  have hsl : ∀ W, (Instr.slice 22 (.slice (some ad) (n + 9) cw) none (some (.int .i64 (n : Int))) none).run Tryz.prog W = .ok (.slice (some ad) n cw) W := fun W => by
    rw [run_slice_h (P := Tryz.prog) (w := W) 22 _ _ _ (by kernel_rfl) .i64 n (by omega) (by omega)]
    have hs : (sizeOf ((Tryz.prog).elem 22)).run Tryz.prog W = .ok 1 W := by kernel_rfl
    simp [Result.andThen, sliced, hs, Addr.add]
  go_upto_region 1 with fail
  go_region_held (fun w' => (convert 22 9 (.slice (some ad) n cw)).run Tryz.prog w' = .ok (.string ⟨l.toArray⟩) w' ∧ (convert 22 9 (.slice A n c)).run Tryz.prog w' = .ok (.string ⟨l.toArray⟩) w') (exact ⟨hc1, hc2⟩) (first | fail)
  go_wp2_with fail
  clear hsl hc1 hc2
  go_loopg [5] 9 (fun q v5 wr => ∃ j : Nat, v5 = .int .i64 ((n + j : Nat) : Int) ∧ j + q = 9 ∧ wr = w.drew)
  case atStart => exact ⟨0, rfl, by omega, rfl⟩
  case round =>
    obtain ⟨j, rfl, hq, rfl⟩ := hrel
    by_cases hj : j < 9
    · have hlt : ((n + j : Nat) : Int) < ((n : Int) + 9) := by omega
      have hx : w.drew.cell? (ad.add (n + j)) = some (.int .u8 ((201 + ((n + j : Nat) : Int)) % 256)) := by
        have hl := Hl.out
        refine hcell (n + j) _ ?_
        rw [spareTo_get l 9 (n + j) (by omega)]
        unfold spareAt
        rw [if_neg (by omega), if_pos (by omega)]
      have Hq := Lib.hid hq
      have hwj : IntKind.i64.wrap (201 + ((n + j : Nat) : Int)) = 201 + ((n + j : Nat) : Int) := IntWalk.i64_in _ (by omega)
      clear hq hcell
      generalize hk : n + j = k at *
      have Hk := Lib.hid hk
      clear hk
      go_wp2_with fail
      go_roundg (9 - (j + 1))
      case measure => have := Hq.out; omega
      case rel => have := Hq.out; have := Hk.out; exact ⟨j + 1, by rw [show ((n + (j + 1) : Nat) : Int) = (k : Int) + 1 by omega], by omega, rfl⟩
    · obtain rfl : j = 9 := by omega
      have hge : ¬ ((n + 9 : Nat) : Int) < (n : Int) + 9 := by omega
      clear hq hj hcell
      go_wp2_with fail
      go_ret
      exact ⟨rfl, 1, rfl⟩
end Go.Proofs.YtfoldlbnkfnenaaGreat
