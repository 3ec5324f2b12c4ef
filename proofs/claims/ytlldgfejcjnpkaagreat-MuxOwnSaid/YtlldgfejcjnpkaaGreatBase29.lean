/- The base of the laws, part 29: contracts and plain lemmas, no statement. -/
import Derived.Test.YtlldgfejcjnpkaaGreatBase6
import Derived.Test.YtlldgfejcjnpkaaGreatBase8
import Derived.Laws.CopyOwn
import Derived.Deep.RegionHeld3
set_option linter.unusedVariables false
/- Lists with spare room (parapethand): Spare, Kept, mark. -/
namespace Go.Proofs.YtlldgfejcjnpkaaGreat
open Go.RowKit
set_option maxHeartbeats 10000000
set_option maxRecDepth 100000

theorem mark_any (i k : Nat) (w : World) (hi : i < 100000000) (hk : k < 100000000) : Calls Tryz.prog 64 #[.int .i64 i, .int .i64 k] w fun e w' => e = .returned (.int .u8 ((17 * (i : Int) + 5 * (k : Int) + 3) % 256)) ∧ w' = w := by
  have h1 : IntKind.i64.wrap (17 * (i : Int)) = 17 * (i : Int) := IntWalk.i64_in _ (by omega)
  have h2 : IntKind.i64.wrap (5 * (k : Int)) = 5 * (k : Int) := IntWalk.i64_in _ (by omega)
  have h3 : IntKind.i64.wrap (17 * (i : Int) + 5 * (k : Int)) = 17 * (i : Int) + 5 * (k : Int) := IntWalk.i64_in _ (by omega)
  have h4 : IntKind.i64.wrap (17 * (i : Int) + 5 * (k : Int) + 3) = 17 * (i : Int) + 5 * (k : Int) + 3 := IntWalk.i64_in _ (by omega)
  go_enter Tryz.func64, Tryz.ntmps64
  go_wp2_with fail
  go_ret
  exact ⟨rfl, rfl⟩
/-- make of a length. -/
theorem run_full {t e : TypeId} {z : Value} (ht : (Tryz.prog).underlying t = some (.slice e)) (hinfo : ((Tryz.prog).info? e).map (fun i => (i.zero, i.size, i.bytes)) = some (some z, 1, 1)) (hz1 : z.cells = #[z]) (c : Nat) (hc : c ≤ 140737488355328) (w : World) :
    (Instr.makeSlice t (.int .i64 (c : Int)) (.int .i64 (c : Int))).run Tryz.prog w = .ok (.slice (some ⟨w.heap.size, 0, none⟩) c c) (w.alloc (.cells (madeCells #[z] c) e)) := by
  obtain ⟨i, hi, hzz⟩ := Option.map_eq_some_iff.1 hinfo
  simp only [Prod.mk.injEq] at hzz
  obtain ⟨hz, hs, hb⟩ := hzz
  have hr := run_make (P := Tryz.prog) w t e i z ht hi hz .i64 .i64 c c (by omega) (Int.le_refl _) (by rw [hb]; omega) (by omega)
  simp only [Int.toNat_natCast, hs, Nat.mul_one, hz1] at hr
  exact hr
/-- What Spare lays behind the bytes: place k of all that memory. -/
def spareAt (l : List UInt8) (j k : Nat) : Value := if k < l.length then .int .u8 ((l.getD k 0).toNat : Int) else if k < l.length + j then .int .u8 ((201 + (k : Int)) % 256) else .int .u8 0
def spareTo (l : List UInt8) (j : Nat) : List Value := (List.range (l.length + 9)).map (spareAt l j)
theorem spareTo_length (l : List UInt8) (j : Nat) : (spareTo l j).length = l.length + 9 := by simp [spareTo]
theorem spareTo_get (l : List UInt8) (j k : Nat) (hk : k < l.length + 9) : (spareTo l j)[k]? = some (spareAt l j k) := by simp [spareTo, hk]
theorem spareTo_set (l : List UInt8) (j : Nat) (hj : j < 9) : (spareTo l j).set (l.length + j) (.int .u8 ((201 + ((l.length + j : Nat) : Int)) % 256)) = spareTo l (j + 1) := by
  apply List.ext_getElem?
  intro k
  rcases Nat.lt_or_ge k (l.length + 9) with hk | hk
  · rw [spareTo_get l (j + 1) k hk]
    by_cases he : l.length + j = k
    · subst he
      rw [List.getElem?_set_self (by rw [spareTo_length]; omega)]
      unfold spareAt
      rw [if_neg (by omega), if_pos (by omega)]
    · rw [List.getElem?_set_ne he, spareTo_get l j k hk]
      unfold spareAt
      split
      · rfl
      · by_cases h2 : k < l.length + j
        · rw [if_pos h2, if_pos (by omega)]
        · rw [if_neg h2, if_neg (by omega)]
  · rw [List.getElem?_eq_none (by simp [spareTo_length]; omega), List.getElem?_eq_none (by rw [spareTo_length]; omega)]
theorem spareTo_zero (l : List UInt8) (cur : List Value) (hc : cur = List.replicate (l.length + 9) (.int .u8 0)) : splice cur 0 (u8c l) = spareTo l 0 := by
  subst hc
  apply List.ext_getElem?
  intro k
  unfold splice
  rcases Nat.lt_or_ge k (l.length + 9) with hk | hk
  · rw [spareTo_get l 0 k hk]
    unfold spareAt
    have hul : (u8c l).length = l.length := u8c_length l
    simp only [List.take_zero, List.nil_append, Nat.zero_add]
    by_cases h : k < l.length
    · rw [if_pos h, List.getElem?_append_left (by omega)]
      simp [u8c, h]
    · rw [if_neg h, if_neg (by omega), List.getElem?_append_right (by omega), List.getElem?_drop, List.getElem?_replicate, if_pos (by omega)]
  · rw [List.getElem?_eq_none (by simp [u8c]; omega), List.getElem?_eq_none (by rw [spareTo_length]; omega)]
theorem own_prefix {w : World} {base : Nat} {e : TypeId} {g n m c : Nat} {xs : List Value} (h : w.ownsRow base e 1 (.slice (some ⟨g, 0, none⟩) m c) m xs) (hn : n ≤ m) : w.ownsRow base e 1 (.slice (some ⟨g, 0, none⟩) n c) n (xs.take n) := by
  obtain ⟨hl, h⟩ := h
  refine ⟨by rw [List.length_take, hl]; omega, ?_⟩
  rcases h with ⟨h, _⟩ | ⟨g', cap, cur, h, hb, hg, hnc, hm, hs, hx⟩
  · cases h
  · injection h with h1 h2 h3
    injection h1 with h1
    injection h1 with h1
    subst h1 h3
    refine .inr ⟨g, c, cur, rfl, hb, hg, by omega, hm, hs, ?_⟩
    rw [← hx, List.take_take]
    congr 1
    omega
theorem spare_any (A : Option Addr) (n c B : Nat) (l : List UInt8) (w : World) (hr : Reads w B 1 A n (u8c l)) (hB : B ≤ w.heap.size) (hn : n ≤ 1000000) :
    Calls Tryz.prog 15 #[.slice A n c] w fun e w' => e = .returned (.tuple #[.slice (some ⟨w.heap.size, 0, none⟩) n (n + 9), .slice (some ⟨w.heap.size, 0, none⟩) (n + 9) (n + 9)]) ∧ w'.ownsRow w.heap.size 5 1 (.slice (some ⟨w.heap.size, 0, none⟩) (n + 9) (n + 9)) (n + 9) (spareTo l 9) ∧ Below w.heap.size w w' := by
  have hl : l.length = n := by have := hr.1; simpa [u8c] using this
  have Hl := Lib.hid hl
  have hmk := fun w => run_full (t := 22) (z := .int .u8 0) Tryz.underlying22 byte_info rfl (n + 9) (by omega) w
  have hw9 : IntKind.i64.wrap ((n : Int) + 9) = (n : Int) + 9 := IntWalk.i64_in _ (by omega)
  rw [show ((n + 9 : Nat) : Int) = (n : Int) + 9 by simp] at hmk
  have hbM := (Below.refl w.heap.size w).alloc (Nat.le_refl _) (.cells (madeCells #[.int .u8 0] (n + 9)) 5)
  have hgM : (w.alloc (.cells (madeCells #[.int .u8 0] (n + 9)) 5)).heap[w.heap.size]? = some (.cells (madeCells #[.int .u8 0] (n + 9)).toList.toArray 5 (0, 0)) := by simpa using heap_alloc_new w (.cells (madeCells #[.int .u8 0] (n + 9)) 5)
  have hrM := hr.alloc hB (.cells (madeCells #[.int .u8 0] (n + 9)) 5)
  have hcur : (madeCells #[Value.int .u8 0] (n + 9)).toList = List.replicate (l.length + 9) (.int .u8 0) := by rw [toList_madeCells_one, hl]
  have hsz : (Tryz.prog.info? 5).map (·.size) = some 1 := by kernel_rfl
  clear hl
  go_enter Tryz.func15, Tryz.ntmps15
  go_upto_region 2 with fail
  clear hmk
  generalize madeCells #[Value.int .u8 0] (n + 9) = mk at *
  generalize w.alloc (.cells mk 5) = w1 at *
  go_wp2_with (refine wpList_copy_splice (o := ⟨some 12, _, _, _, _, _⟩) rfl (.tmp 10) (.tmp 11) 22 22 rfl 5 Tryz.underlying22 hsz _ A (n + 9) (n + 9) n c rfl rfl w.heap.size 0 mk.toList 5 hgM (u8c l) (by rw [u8c_length, Hl.out]; exact (Nat.min_eq_left (by omega)).symm) (fun h => ⟨rfl, by obtain ⟨ad, h1, h2, h3⟩ := hrM.2 (by rw [u8c_length, Hl.out] at h; exact h); exact ⟨ad, h1, h3⟩⟩) (by rw [hcur, u8c_length]; simp) (u8c_one l) w.heap.size w hbM (Nat.le_refl _) ?_; intro w2 hg2 hb2)
  obtain ⟨g, Hg⟩ : ∃ g, Hid (g = w.heap.size) := ⟨_, Lib.hid rfl⟩
  have hg0 : Blk w2 g 5 (spareTo l 0).toArray := by
    have h := hg2.out
    rw [spareTo_zero l _ hcur, ← Hg.out] at h
    exact h
  clear hg2 hgM hrM hcur hbM
  rw [← Hg.out]
  generalize w1.heap.size = z1 at *
  clear hr
  go_loopg [5] 9 (fun q v5 wr => ∃ j : Nat, v5 = .int .i64 ((n + j : Nat) : Int) ∧ j + q = 9 ∧ Blk wr g 5 (spareTo l j).toArray ∧ Below w.heap.size w wr)
  case atStart => exact ⟨0, rfl, by omega, hg0, hb2⟩
  case round =>
    clear hg0 hb2
    obtain ⟨j, rfl, hq, hb, hB2⟩ := hrel
    by_cases hj : j < 9
    · have hlt : ((n + j : Nat) : Int) < ((n : Int) + 9) := by omega
      have Hq := Lib.hid hq
      have hcell : w.heap.size ≤ g := by have := Hg.out; omega
      have hc := hb.cell (n + j)
      have hf := hb.frozen
      have hl := Hl.out
      rw [List.getElem?_toArray, spareTo_get l j (n + j) (by omega)] at hc
      have hnx := hb.set_ (n + j) (.int .u8 ((201 + ((n + j : Nat) : Int)) % 256))
      rw [List.setIfInBounds_toArray] at hnx
      rw [show n + j = l.length + j by omega] at hnx
      rw [spareTo_set l j hj, show l.length + j = n + j by omega] at hnx
      have hwj : IntKind.i64.wrap (201 + ((n + j : Nat) : Int)) = 201 + ((n + j : Nat) : Int) := IntWalk.i64_in _ (by omega)
      have hBx := hB2.setCell (p := ⟨g, n + j, none⟩) hcell (.int .u8 ((201 + ((n + j : Nat) : Int)) % 256))
      clear hq hl
      generalize hk : n + j = k at *
      have Hk := Lib.hid hk
      clear hk
      go_wp2_with fail
      go_roundg (9 - (j + 1))
      case measure => have := Hq.out; omega
      case rel => have := Hq.out; have := Hk.out; exact ⟨j + 1, by rw [show ((n + (j + 1) : Nat) : Int) = (k : Int) + 1 by omega], by omega, hnx, hBx⟩
    · obtain rfl : j = 9 := by omega
      have hge : ¬ ((n + 9 : Nat) : Int) < (n : Int) + 9 := by omega
      have hl := Hl.out
      have hown : wr.ownsRow w.heap.size 5 1 (.slice (some ⟨g, 0, none⟩) (n + 9) (n + 9)) (n + 9) (spareTo l 9) :=
        ⟨by rw [spareTo_length]; omega, .inr ⟨g, n + 9, (spareTo l 9).toArray, rfl, by have := Hg.out; omega, hb, Nat.le_refl _, by unfold maxLen; omega, by simp [spareTo_length]; omega, by rw [List.take_of_length_le (by simp [spareTo_length]; omega)]⟩⟩
      clear hb hl hq hj
      go_wp2_with fail
      refine bodyPost_ret (v := .tuple #[.slice (some ⟨g, 0, none⟩) n (n + 9), .slice (some ⟨g, 0, none⟩) (n + 9) (n + 9)]) (by simp [results, Tryz.results15, go_sem]) rfl ⟨by rw [Hg.out], by have h := hown; rw [Hg.out] at h; exact h, hB2⟩
theorem kept_any (Aw A : Option Addr) (n cw c B : Nat) (l : List UInt8) (w : World) (hw : Reads w B 1 Aw (n + 9) (spareTo l 9)) (hr : Reads w B 1 A n (u8c l)) (hcw : n + 9 ≤ cw) (hn : n ≤ 1000000) :
    Calls Tryz.prog 18 #[.slice Aw (n + 9) cw, .slice A n c] w fun e w' => e = .returned (.bool true) ∧ ∃ k, w' = w.drewN k := by
  have hl : l.length = n := by have := hr.1; simpa [u8c] using this
  obtain ⟨ad, rfl, hab, hcell⟩ := hw.2 (by omega)
  have hrp : Reads w B 1 (some ad) n (u8c l) := by
    refine ⟨by rw [u8c_length]; omega, fun h0 => ⟨ad, rfl, hab, fun j u hu => ?_⟩⟩
    have hj : j < l.length := by
      have := (List.getElem?_eq_some_iff.1 hu).1
      rwa [u8c_length] at this
    refine hcell j u ?_
    rw [spareTo_get l 9 j (by omega)]
    unfold spareAt
    rw [if_pos hj]
    simpa [u8c, hj] using hu
  have hc1 := conv_reads (c := cw) hrp.drew
  have hc2 := conv_reads (c := c) hr.drew
  have Hl := Lib.hid hl
  have hw9 : IntKind.i64.wrap ((n : Int) + 9) = (n : Int) + 9 := IntWalk.i64_in _ (by omega)
  clear hl hrp hw hr
  go_enter Tryz.func18, Tryz.ntmps18
  have hsl : ∀ W, (Instr.slice 22 (.slice (some ad) (n + 9) cw) none (some (.int .i64 (n : Int))) none).run Tryz.prog W = .ok (.slice (some ad) n cw) W := fun W => by
    rw [run_slice_h (P := Tryz.prog) (w := W) 22 _ _ _ (by kernel_rfl) .i64 n (by omega) (by omega)]
    have hs : (sizeOf ((Tryz.prog).elem 22)).run Tryz.prog W = .ok 1 W := by kernel_rfl
    simp [Result.andThen, sliced, hs, Addr.add]
  go_upto_region 1 with fail
  go_region_held (fun w' => (convert 22 9 (.slice (some ad) n cw)).run Tryz.prog w' = .ok (.string ⟨l.toArray⟩) w' ∧ (convert 22 9 (.slice A n c)).run Tryz.prog w' = .ok (.string ⟨l.toArray⟩) w') (exact ⟨hc1, hc2⟩) (first | fail)
  go_wp2_with fail
  clear hsl hc1 hc2
  go_loopg [5] 9 (fun q v5 wr => ∃ j : Nat, v5 = .int .i64 ((n + j : Nat) : Int) ∧ j + q = 9 ∧ wr = w.drew)
  case atStart => exact ⟨0, rfl, by omega, rfl⟩
  case round =>
    obtain ⟨j, rfl, hq, rfl⟩ := hrel
    by_cases hj : j < 9
    · have hlt : ((n + j : Nat) : Int) < ((n : Int) + 9) := by omega
      have hx : w.drew.cell? (ad.add (n + j)) = some (.int .u8 ((201 + ((n + j : Nat) : Int)) % 256)) := by
        have hl := Hl.out
        refine hcell (n + j) _ ?_
        rw [spareTo_get l 9 (n + j) (by omega)]
        unfold spareAt
        rw [if_neg (by omega), if_pos (by omega)]
      have Hq := Lib.hid hq
      have hwj : IntKind.i64.wrap (201 + ((n + j : Nat) : Int)) = 201 + ((n + j : Nat) : Int) := IntWalk.i64_in _ (by omega)
      clear hq hcell
      generalize hk : n + j = k at *
      have Hk := Lib.hid hk
      clear hk
      go_wp2_with fail
      go_roundg (9 - (j + 1))
      case measure => have := Hq.out; omega
      case rel => have := Hq.out; have := Hk.out; exact ⟨j + 1, by rw [show ((n + (j + 1) : Nat) : Int) = (k : Int) + 1 by omega], by omega, rfl⟩
    · obtain rfl : j = 9 := by omega
      have hge : ¬ ((n + 9 : Nat) : Int) < (n : Int) + 9 := by omega
      clear hq hj hcell
      go_wp2_with fail
      go_ret
      exact ⟨rfl, 1, rfl⟩
end Go.Proofs.YtlldgfejcjnpkaaGreat
/- Lists that must not share memory (parapethand.Apart). -/
namespace Go.Proofs.YtlldgfejcjnpkaaGreat
open Go.RowKit
set_option maxHeartbeats 10000000
set_option maxRecDepth 100000

section
variable {P : Program} (w : World)
/-- append, with what it leaves alone: in place, or a new block and nothing else. -/
theorem run_append_keep (base : Nat) (t ty e : TypeId) (i : TypeInfo) (z : Value) (size bytes : Nat) (ht : P.underlying t = some (.slice e)) (hi : P.info? e = some i) (hz : i.zero = some z)
    (hsize : i.size = size) (hby : i.bytes = bytes) (hzs : z.cells.size = size) (hsz : 0 < size)
    (v : Value) (n : Nat) (xs : List Value) (hown : w.ownsRow base e size v n xs)
    (ad : Addr) (m c : Nat) (news : List Value) (hl : news.length = m * size) (hcells : ∀ j u, news[j]? = some u → w.cell? (ad.add j) = some u) (h1 : ∀ u ∈ news, u.oneCell' = true)
    (h63 : n + m ≤ maxLen) (hbytes : (n + m) * bytes ≤ 140737488355328) (hbase : base ≤ w.heap.size) :
    ∃ v' w', (Builtin.append_ #[t, t] ty #[v, .slice (some ad) m c]).run P w = .ok v' w' ∧ w'.ownsRow base e size v' (n + m) (xs ++ news) ∧
      ((∃ g cap, v = .slice (some ⟨g, 0, none⟩) n cap ∧ v' = .slice (some ⟨g, 0, none⟩) (n + m) cap ∧ w.grownBy w' (some g)) ∨
       ((v'.ownBlock = some w.heap.size ∨ v'.ownBlock = none) ∧ Below w.heap.size w w')) := by
  obtain ⟨v', w', hrun, hown', hgr, _, hblk⟩ := run_append_own_at (P := P) w base t ty e i z size bytes ht hi hz hsize hby hzs hsz v n xs hown ad m c news hl hcells h1 h63 hbytes hbase
  rcases hown.2 with ⟨rfl, rfl⟩ | ⟨g, cap, cur, rfl, hbg, hg, hnc, hcm, hcs, htake⟩
  · refine ⟨v', w', hrun, hown', .inr ⟨hblk.symm, ⟨hgr.os, hgr.tape, hgr.output, hgr.size, fun k hk => hgr.block k hk (by simp [Value.ownBlock])⟩⟩⟩
  · by_cases hroom : n + m ≤ cap
    · obtain ⟨w2, hrun2, hown2, hgr2⟩ := run_append_fits (P := P) w base t ty e i size ht hi hsize g n cap xs hown ad m c news hl hcells h1 hroom
      exact ⟨_, w2, hrun2, hown2, .inl ⟨g, cap, rfl, rfl, hgr2⟩⟩
    · have holds : ∀ j u, xs[j]? = some u → w.cell? ((⟨g, 0, none⟩ : Addr).add j) = some u := hown.cells (g := g) rfl
      have hr := run_append_grow (P := P) w t ty e i z ht hi hz ⟨g, 0, none⟩ n cap xs (by rw [hsize]; exact hown.1) holds ad m c news (by rw [hsize]; exact hl) hcells (by omega) (by unfold maxLen at h63; omega) (growslice_fits (by omega) (by rw [hby]; exact hbytes))
      rw [hrun] at hr
      injection hr with h2 h3
      subst h2 h3
      refine ⟨_, _, hrun, hown', .inr ⟨.inl rfl, ⟨rfl, rfl, rfl, by simp, fun k hk => Below.heap_alloc w.drew _ k hk⟩⟩⟩
theorem step_append_keep {ops : Array Oper} {o : Oper} {a : Act} {K : Act → World → Prop} {Q : Exit → Act → World → Prop} {E : Prop} (hgd : o.guard = none) (s x : Operand) (t : TypeId)
    (ho : o.op = .call { callee := .builtin .append, args := #[s, x], argTypes := #[t, t] })
    (base : Nat) (e : TypeId) (i : TypeInfo) (z : Value) (size bytes : Nat) (ht : P.underlying t = some (.slice e)) (hi : P.info? e = some i) (hz : i.zero = some z)
    (hsize : i.size = size) (hby : i.bytes = bytes) (hzs : z.cells.size = size) (hsz : 0 < size)
    (v : Value) (n : Nat) (xs : List Value) (hs : a.eval s = v) (hown : w.ownsRow base e size v n xs)
    (ad : Addr) (m c : Nat) (news : List Value) (hx : a.eval x = .slice (some ad) m c) (hl : news.length = m * size) (hcells : ∀ j u, news[j]? = some u → w.cell? (ad.add j) = some u) (h1 : ∀ u ∈ news, u.oneCell' = true)
    (h63 : n + m ≤ maxLen) (hbytes : (n + m) * bytes ≤ 140737488355328) (hbase : base ≤ w.heap.size)
    (h : ∀ v' w', w'.ownsRow base e size v' (n + m) (xs ++ news) →
      ((∃ g cap, v = .slice (some ⟨g, 0, none⟩) n cap ∧ v' = .slice (some ⟨g, 0, none⟩) (n + m) cap ∧ w.grownBy w' (some g)) ∨ ((v'.ownBlock = some w.heap.size ∨ v'.ownBlock = none) ∧ Below w.heap.size w w')) → K (a.put o.dst v') w') :
    if Region.wanted o (yielded ops a.tmps) = true then Oper.wp P o a w K Q else E := by
  have hw : Region.wanted o (yielded ops a.tmps) = true := by simp [Region.wanted, hgd]
  rw [if_pos hw]
  obtain ⟨v', w', hrun, h2, h3⟩ := run_append_keep (P := P) w base t o.type e i z size bytes ht hi hz hsize hby hzs hsz v n xs hown ad m c news hl hcells h1 h63 hbytes hbase
  unfold Oper.wp execOp
  simp only [ho, resolve, invoke, builtin, Sem.run_bind, Sem.run_pure, Result.andThen_ok, List.map_toArray, List.map_cons, List.map_nil, hs, hx, hrun]
  exact h v' w' h2 h3
end
/-- The byte that a list has in a place. -/
def markV (i k : Nat) : Value := .int .u8 ((17 * (i : Int) + 5 * (k : Int) + 3) % 256)
def marks (i n : Nat) : List Value := (List.range n).map (markV i)
theorem marks_length (i n : Nat) : (marks i n).length = n := by simp [marks]
theorem marks_succ (i n : Nat) : marks i (n + 1) = marks i n ++ [markV i n] := by simp [marks, List.range_succ]
theorem marks_get {i n k : Nat} (h : k < n) : (marks i n)[k]? = some (markV i k) := by simp [marks, h]
theorem marks_take {i n m : Nat} (h : n ≤ m) : (marks i m).take n = marks i n := by
  unfold marks
  rw [← List.map_take, List.take_range, Nat.min_eq_left h]
/-- What list j holds when i lists and k places of the next one are marked. -/
def stage (n : Nat → Nat) (X : Nat → List Value) (i k j : Nat) : List Value := if j < i then marks j (n j) else if j = i then marks i k ++ (X j).drop k else X j
theorem stage_set {n : Nat → Nat} {X : Nat → List Value} {i k : Nat} (hk : k < (X i).length) : (stage n X i k i).set k (markV i k) = stage n X i (k + 1) i := by
  unfold stage
  rw [if_neg (by omega), if_pos rfl, if_neg (by omega), if_pos rfl, marks_succ]
  have hle : (marks i k).length ≤ k := by rw [marks_length]; exact Nat.le_refl _
  have e : (List.drop k (X i)).set 0 (markV i k) = markV i k :: List.drop (k + 1) (X i) := by rw [List.drop_eq_getElem_cons hk]; rfl
  rw [List.set_append_right _ _ hle, marks_length, Nat.sub_self, e]
  simp
/-- Lists in memory: the list of them at L, each a row of its own. -/
structure Lists (B : Nat) (w : World) (L N : Nat) (V : Nat → Value) (n : Nat → Nat) (X : Nat → List Value) : Prop where
  cell : ∀ i, i < N → w.cell? ⟨L, i, none⟩ = some (V i)
  row : ∀ i, i < N → w.ownsRow B 5 1 (V i) (n i) (X i)
  far : ∀ i, i < N → ∀ x, (V i).ownBlock = some x → x ≠ L
  dis : ∀ i j, i < N → j < N → i ≠ j → ∀ x, (V i).ownBlock = some x → (V j).ownBlock ≠ some x
section
variable {B L N : Nat} {w w' : World} {V : Nat → Value} {n : Nat → Nat} {X Y : Nat → List Value}
theorem Lists.same (h : Lists B w L N V n X) (e : ∀ i, i < N → X i = Y i) : Lists B w L N V n Y := ⟨h.cell, fun i hi => by rw [← e i hi]; exact h.row i hi, h.far, h.dis⟩
theorem Lists.drew (h : Lists B w L N V n X) : Lists B w.drew L N V n X := ⟨h.cell, fun i hi => own_below (h.row i hi) (Below.refl w.heap.size w).drew, h.far, h.dis⟩
theorem Lists.drewN (h : Lists B w L N V n X) (k : Nat) : Lists B (w.drewN k) L N V n X := ⟨h.cell, fun i hi => own_below (h.row i hi) (belowN (Below.refl w.heap.size w) k), h.far, h.dis⟩
theorem Lists.below (h : Lists B w L N V n X) (hL : L < w.heap.size) (hb : Below w.heap.size w w') : Lists B w' L N V n X := ⟨fun i hi => (hb.cell hL).trans (h.cell i hi), fun i hi => own_below (h.row i hi) hb, h.far, h.dis⟩
/-- Behind a store into list i. -/
theorem Lists.store (h : Lists B w L N V n X) {i k g c : Nat} (hi : i < N) (hv : V i = .slice (some ⟨g, 0, none⟩) (n i) c) (u : Value) : Lists B (w.setCell ⟨g, k, none⟩ u) L N V n (fun j => if j = i then (X i).set k u else X j) where
  cell := fun j hj => (World.cell?_setCell_other w ⟨g, k, none⟩ ⟨L, j, none⟩ u (by intro e; injection e with e1; exact h.far i hi g (by rw [hv]; rfl) e1)).trans (h.cell j hj)
  row := fun j hj => by
    by_cases e : j = i
    · subst e
      rw [if_pos rfl]
      have hr := h.row j hj
      rw [hv] at hr ⊢
      exact own_set1 hr k u
    · rw [if_neg e]
      exact own_far (h.row j hj) (fun hx => h.dis j i hj hi e g hx (by rw [hv]; rfl)) k u
  far := h.far
  dis := h.dis
/-- The lists, and what grew out of each (its list at GR): no two of different lists share a block; all that changed since w0 is the lists' own. -/
structure Grown (B : Nat) (w0 w : World) (L GR N : Nat) (V G : Nat → Value) (n m : Nat → Nat) : Prop where
  ls : Lists B w L N V n (fun i => marks i (n i))
  row : ∀ i, i < N → w.ownsRow B 5 1 (G i) (m i) (marks i (m i))
  nm : ∀ i, i < N → n i ≤ m i
  lg : L < w.heap.size ∧ GR < w.heap.size ∧ L ≠ GR
  vfar : ∀ i, i < N → ∀ x, (V i).ownBlock = some x → x ≠ GR
  gfar : ∀ i, i < N → ∀ x, (G i).ownBlock = some x → x ≠ GR ∧ x ≠ L
  dis : ∀ i j, i < N → j < N → i ≠ j → ∀ x, (G i).ownBlock = some x → (G j).ownBlock ≠ some x ∧ (V j).ownBlock ≠ some x
  gs : ∀ i, i < N → ∀ x, (G i).ownBlock = some x → (∃ j, j < N ∧ (V j).ownBlock = some x) ∨ w0.heap.size ≤ x
  keep : Keep (fun x => ∃ i, i < N ∧ (V i).ownBlock = some x) w0 w
section
variable {w0 : World} {GR : Nat} {G : Nat → Value} {m : Nat → Nat}
theorem Grown.below (h : Grown B w0 w L GR N V G n m) (hb : Below w.heap.size w w') : Grown B w0 w' L GR N V G n m :=
  { h with ls := h.ls.below h.lg.1 hb, row := fun i hi => own_below (h.row i hi) hb, lg := ⟨Nat.lt_of_lt_of_le h.lg.1 hb.size, Nat.lt_of_lt_of_le h.lg.2.1 hb.size, h.lg.2.2⟩, keep := h.keep.trans (Keep.of_below hb) }
/-- Behind an append onto what grew out of list j. -/
theorem Grown.append (h : Grown B w0 w L GR N V G n m) {j : Nat} (hj : j < N) {v' : Value} (hown : w'.ownsRow B 5 1 v' (m j + 1) (marks j (m j) ++ [markV j (m j)]))
    (hc : (∃ g cap, G j = .slice (some ⟨g, 0, none⟩) (m j) cap ∧ v' = .slice (some ⟨g, 0, none⟩) (m j + 1) cap ∧ w.grownBy w' (some g)) ∨ ((v'.ownBlock = some w.heap.size ∨ v'.ownBlock = none) ∧ Below w.heap.size w w')) :
    Grown B w0 w' L GR N V (fun i => if i = j then v' else G i) n (fun i => if i = j then m j + 1 else m i) ∧ ∀ i, w'.cell? ⟨GR, i, none⟩ = w.cell? ⟨GR, i, none⟩ ∧ w'.frozen? ⟨GR, i, none⟩ = w.frozen? ⟨GR, i, none⟩ := by
  rcases hc with ⟨g, cap, hG, rfl, hgr⟩ | ⟨hvb, hb⟩
  · have hbj : (G j).ownBlock = some g := by rw [hG]; rfl
    have hK : Keep (fun x => x = g) w w' := ⟨hgr.os, hgr.tape, hgr.output, hgr.size, fun k hk hn => hgr.block k hk (fun e => hn (by injection e))⟩
    have hrow : ∀ (v : Value) (k : Nat) (xs : List Value), w.ownsRow B 5 1 v k xs → v.ownBlock ≠ some g → w'.ownsRow B 5 1 v k xs := fun v k xs hr hne => ownsRow_keep hr hK (fun x hx e => hne (e ▸ hx))
    have hgf := h.gfar j hj g hbj
    refine ⟨{ ls := ⟨fun i hi => ?_, fun i hi => ?_, h.ls.far, h.ls.dis⟩, row := fun i hi => ?_, nm := fun i hi => ?_, lg := ⟨Nat.lt_of_lt_of_le h.lg.1 hgr.size, Nat.lt_of_lt_of_le h.lg.2.1 hgr.size, h.lg.2.2⟩, vfar := h.vfar, gfar := fun i hi x hx => ?_, dis := fun i k hi hk hne x hx => ?_, gs := fun i hi x hx => ?_, keep := h.keep.andThen hK ?_ }, fun i => ?_⟩
    · exact (World.cell?_of_block (hK.block L h.lg.1 (fun e => hgf.2 e.symm))).trans (h.ls.cell i hi)
    · by_cases e : (V i).ownBlock = some g
      · have hij : i = j := by
          rcases Nat.decEq i j with hne | he
          · exact absurd e (h.dis j i hj hi (fun e' => hne e'.symm) g hbj).2
          · exact he
        subst hij
        have hv := h.ls.row i hi
        have hg0 := h.row i hi
        rw [hG] at hg0
        obtain ⟨A, c, hV⟩ := own_slice hv
        rw [hV] at hv e ⊢
        rcases hv.2 with ⟨_, h0⟩ | ⟨g', c', cur, hv1, hb1, hh1, hn1, hm1, hs1, hx1⟩
        · rename_i hv0
          injection hv0 with q1 q2 q3
          subst q1
          simp [Value.ownBlock] at e
        · injection hv1 with q1 q2 q3
          subst q1 q3
          have hgg : g' = g := by simpa [Value.ownBlock] using e
          subst hgg
          rcases hg0.2 with ⟨q, _⟩ | ⟨g2, c2, cur2, hv2, hb2, hh2, hn2, hm2, hs2, hx2⟩
          · cases q
          · injection hv2 with r1 r2 r3
            injection r1 with r1
            injection r1 with r1
            subst r1 r3
            rw [hh1] at hh2
            injection hh2 with hh2
            injection hh2 with hh2
            subst hh2
            have hcc : c = cap := by omega
            subst hcc
            have hp := own_prefix hown (n := n i) (by have := h.nm i hi; omega)
            rw [← marks_succ, marks_take (by have := h.nm i hi; omega)] at hp
            exact hp
      · exact hrow _ _ _ (h.ls.row i hi) e
    · by_cases e : i = j
      · subst e
        simp only [if_true]
        rw [marks_succ]
        exact hown
      · simp only [if_neg e]
        exact hrow _ _ _ (h.row i hi) (fun hx => (h.dis j i hj hi (fun e' => e e'.symm) g hbj).1 hx)
    · by_cases e : i = j
      · subst e; simp only [if_true]; have := h.nm i hi; omega
      · simp only [if_neg e]; exact h.nm i hi
    · by_cases e : i = j
      · simp only [if_pos e] at hx
        have : x = g := by simpa [Value.ownBlock, eq_comm] using hx
        subst this
        exact hgf
      · simp only [if_neg e] at hx
        exact h.gfar i hi x hx
    · by_cases e : i = j
      · subst e
        simp only [if_true] at hx
        have hxg : x = g := by simpa [Value.ownBlock, eq_comm] using hx
        subst hxg
        have hd := h.dis i k hi hk hne x hbj
        simp only [if_neg (show ¬ k = i from fun e' => hne e'.symm)]
        exact hd
      · simp only [if_neg e] at hx
        have hd := h.dis i k hi hk hne x hx
        refine ⟨?_, hd.2⟩
        by_cases e2 : k = j
        · subst e2
          simp only [if_true]
          intro hx2
          have hxg : x = g := by simpa [Value.ownBlock, eq_comm] using hx2
          subst hxg
          exact hd.1 hbj
        · simp only [if_neg e2]
          exact hd.1
    · by_cases e : i = j
      · subst e
        simp only [if_true] at hx
        have hxg : x = g := by simpa [Value.ownBlock, eq_comm] using hx
        subst hxg
        exact h.gs i hi x hbj
      · simp only [if_neg e] at hx
        exact h.gs i hi x hx
    · intro x hx0 e
      subst e
      rcases h.gs j hj x hbj with h1 | h1
      · exact h1
      · omega
    · have hne : GR ≠ g := fun e => hgf.1 e.symm
      exact ⟨World.cell?_of_block (hK.block GR h.lg.2.1 hne), World.frozen?_of_block (hK.block GR h.lg.2.1 hne)⟩
  · have h2 := h.below hb
    have hlt : ∀ (v : Value) (k : Nat) (xs : List Value), w.ownsRow B 5 1 v k xs → ∀ x, v.ownBlock = some x → x < w.heap.size := fun v k xs hr x hx => (hr.lt x hx).2
    have hv' : ∀ x, v'.ownBlock = some x → x = w.heap.size := fun x hx => by
      rcases hvb with e | e
      · rw [e] at hx; injection hx with hx; exact hx.symm
      · rw [e] at hx; cases hx
    refine ⟨{ ls := h2.ls, row := fun i hi => ?_, nm := fun i hi => ?_, lg := h2.lg, vfar := h.vfar, gfar := fun i hi x hx => ?_, dis := fun i k hi hk hne x hx => ?_, gs := fun i hi x hx => ?_, keep := h2.keep }, fun i => ⟨World.cell?_of_block (hb.block GR h.lg.2.1), World.frozen?_of_block (hb.block GR h.lg.2.1)⟩⟩
    · by_cases e : i = j
      · subst e
        simp only [if_true]
        rw [marks_succ]
        exact hown
      · simp only [if_neg e]
        exact h2.row i hi
    · by_cases e : i = j
      · subst e; simp only [if_true]; have := h.nm i hi; omega
      · simp only [if_neg e]; exact h.nm i hi
    · by_cases e : i = j
      · simp only [if_pos e] at hx
        have := hv' x hx
        subst this
        exact ⟨fun e => by have := h.lg.2.1; omega, fun e => by have := h.lg.1; omega⟩
      · simp only [if_neg e] at hx
        exact h.gfar i hi x hx
    · by_cases e : i = j
      · subst e
        simp only [if_true] at hx
        have hxn := hv' x hx
        subst hxn
        simp only [if_neg (show ¬ k = i from fun e' => hne e'.symm)]
        exact ⟨fun hx2 => by have := hlt _ _ _ (h.row k hk) _ hx2; omega, fun hx2 => by have := hlt _ _ _ (h.ls.row k hk) _ hx2; omega⟩
      · simp only [if_neg e] at hx
        have hd := h.dis i k hi hk hne x hx
        refine ⟨?_, hd.2⟩
        by_cases e2 : k = j
        · subst e2
          simp only [if_true]
          intro hx2
          have hxn := hv' x hx2
          subst hxn
          have := hlt _ _ _ (h.row i hi) _ hx
          omega
        · simp only [if_neg e2]
          exact hd.1
    · by_cases e : i = j
      · subst e
        simp only [if_true] at hx
        have hxn := hv' x hx
        subst hxn
        exact .inr h.keep.size
      · simp only [if_neg e] at hx
        exact h.gs i hi x hx
/-- Behind a store into the list of what grew. -/
theorem Grown.storeG (h : Grown B w0 w L GR N V G n m) (hG0 : w0.heap.size ≤ GR) (k : Nat) (u : Value) : Grown B w0 (w.setCell ⟨GR, k, none⟩ u) L GR N V G n m :=
  { h with
    ls := ⟨fun i hi => (World.cell?_setCell_other w ⟨GR, k, none⟩ ⟨L, i, none⟩ u (by intro e; injection e with e1; exact h.lg.2.2 e1.symm)).trans (h.ls.cell i hi), fun i hi => own_far (h.ls.row i hi) (fun hx => h.vfar i hi GR hx rfl) k u, h.ls.far, h.ls.dis⟩
    row := fun i hi => own_far (h.row i hi) (fun hx => (h.gfar i hi GR hx).1 rfl) k u
    lg := by have := h.lg; simpa [World.setCell] using this
    keep := h.keep.setCell (fun hk => by exfalso; simp at hk; omega) u }
end
end
end Go.Proofs.YtlldgfejcjnpkaaGreat
/- The walk of parapethand.Apart. -/
namespace Go.Proofs.YtlldgfejcjnpkaaGreat
open Go.RowKit
set_option maxHeartbeats 10000000
set_option maxRecDepth 100000

theorem stage_zero (n : Nat → Nat) (X : Nat → List Value) (j : Nat) : stage n X 0 0 j = X j := by
  unfold stage
  rw [if_neg (by omega)]
  split
  · subst_vars; simp [marks]
  · rfl
theorem stage_next (n : Nat → Nat) (X : Nat → List Value) (i j : Nat) (hX : (X i).length = n i) : stage n X i (n i) j = stage n X (i + 1) 0 j := by
  unfold stage
  by_cases h1 : j < i
  · rw [if_pos h1, if_pos (by omega)]
  · rw [if_neg h1]
    by_cases h2 : j = i
    · subst h2
      rw [if_pos rfl, if_pos (by omega), List.drop_eq_nil_of_le (by omega), List.append_nil]
    · rw [if_neg h2, if_neg (by omega)]
      by_cases h3 : j = i + 1
      · subst h3; rw [if_pos rfl]; simp [marks]
      · rw [if_neg h3]
theorem list_info : (Tryz.prog.info? 22).map (fun i => (i.zero, i.size, i.bytes)) = some (some (.slice none 0 0), 1, 24) := by kernel_rfl
theorem apart_any (B L N cL : Nat) (V : Nat → Value) (n : Nat → Nat) (X : Nat → List Value) (w : World) (hL : Lists B w L N V n X) (hLL : L < w.heap.size) (hN : 1 ≤ N ∧ N ≤ 1000) (hn : ∀ i, i < N → n i ≤ 100000) (hcL : N ≤ cL) (hB : B ≤ w.heap.size) :
    Calls Tryz.prog 23 #[.slice (some ⟨L, 0, none⟩) N cL] w fun e w' => e = .returned (.bool true) ∧ Keep (fun x => ∃ i, i < N ∧ (V i).ownBlock = some x) w w' := by
  have hXl : ∀ i, i < N → (X i).length = n i := fun i hi => by have := (hL.row i hi).1; simpa using this
  go_enter Tryz.func23, Tryz.ntmps23
  go_wp2_with fail
  go_loopg [3] N (fun q v3 wr => ∃ i : Nat, v3 = .int .i64 i ∧ i + q = N ∧ Lists B wr L N V n (stage n X i 0) ∧ Keep (fun x => ∃ i, i < N ∧ (V i).ownBlock = some x) w wr)
  case atStart => exact ⟨0, rfl, by omega, hL.same (fun i hi => (stage_zero n X i).symm), Keep.refl _ _⟩
  case round =>
    obtain ⟨i, rfl, hq, hLi, hK⟩ := hrel
    by_cases hi : i < N
    · have Hq := Lib.hid hq
      clear hq
      go_wp2_with fail
      go_loopg [4] (n i) (fun q v4 wr => ∃ k : Nat, v4 = .int .i64 k ∧ k + q = n i ∧ Lists B wr L N V n (stage n X i k) ∧ Keep (fun x => ∃ i, i < N ∧ (V i).ownBlock = some x) w wr)
      case atStart => exact ⟨0, rfl, by omega, hLi, hK⟩
      case round =>
        obtain ⟨k, rfl, hq, hLk, hKk⟩ := hrel
        have hni := hn i hi
        have hXi := hXl i hi
        obtain ⟨A, c, hV⟩ := own_slice (hLk.row i hi)
        have hcell := hLk.cell i hi
        by_cases hk : k < n i
        · have hrow := hLk.row i hi
          rw [hV] at hrow
          obtain ⟨g, rfl⟩ := own_some hrow (by omega)
          have hfz := (own_at (k := k) hrow).1
          obtain ⟨u0, hu0⟩ := (own_at (k := k) hrow).2 (by omega)
          have hst := hLk.store hi (k := k) hV (.int .u8 ((17 * (i : Int) + 5 * (k : Int) + 3) % 256))
          have hSg : ∃ i, i < N ∧ (V i).ownBlock = some g := ⟨i, hi, by rw [hV]; rfl⟩
          have hKx := (hKk.setCell (p := ⟨g, k, none⟩) (fun _ => hSg) (.int .u8 ((17 * (i : Int) + 5 * (k : Int) + 3) % 256))).drew
          have hnext := (hst.same (Y := stage n X i (k + 1)) (fun j hj => by
            by_cases e : j = i
            · subst e
              rw [if_pos rfl]
              exact stage_set (by omega)
            · rw [if_neg e]
              unfold stage
              by_cases h1 : j < i
              · simp [h1]
              · simp [h1, e])).drew
          have hcs := hnext.cell i hi
          rw [hV] at hcell hcs
          have Hqk := Lib.hid hq
          have Hkb := Lib.hid (show k + 1 ≤ n i from hk)
          have hk5 : k < 100000 := by omega
          obtain ⟨ni, Hni⟩ : ∃ x, Hid (x = n i) := ⟨_, Lib.hid rfl⟩
          rw [← Hni.out] at hcell hcs hk
          have hfzd : wr.drew.frozen? ⟨g, k, none⟩ = false := hfz
          clear hq hst hXi hrow
          go_upto_region 7 with fail
          have hcd : wr.drew.cell? ⟨L, i, none⟩ = some (.slice (some ⟨g, 0, none⟩) ni c) := hcell
          have hud : wr.drew.cell? ⟨g, k, none⟩ = some u0 := hu0
          go_region_held3 (fun w' => w'.cell? ⟨L, i, none⟩ = some (.slice (some ⟨g, 0, none⟩) ni c)) (with_reducible (first | exact hcd | exact hcs)) (first
            | (go_at_call 64; refine (mark_any i k _ (by omega) (by omega)).mono ?_; rintro e w' ⟨rfl, rfl⟩))
          go_wp2_with fail
          go_roundg (n i - (k + 1))
          case measure => have := Hqk.out; have := Hkb.out; omega
          case rel => have := Hqk.out; have := Hkb.out; exact ⟨k + 1, by go_num, by omega, hnext, hKx⟩
        · obtain rfl : k = n i := by omega
          rw [hV] at hcell
          have hnl : ¬ ((n i : Nat) : Int) < ((n i : Nat) : Int) := by omega
          go_wp2_with fail
          go_roundg (N - (i + 1))
          case measure => have := Hq.out; omega
          case rel => have := Hq.out; exact ⟨i + 1, by go_num, by omega, hLk.same (fun j _ => stage_next n X i j hXi), hKk⟩
    · obtain rfl : i = N := by omega
      have hAll := hLi.same (Y := fun j => marks j (n j)) (fun j hj => by unfold stage; rw [if_pos hj])
      obtain ⟨i0, hi0, hz0, hz1, hz2⟩ := info_parts list_info
      obtain ⟨W0, rfl⟩ : ∃ W : World, W = wr := ⟨_, rfl⟩
      have hKs := hK.size
      have hLW : L < W0.heap.size := by omega
      have hrd : Reads W0 W0.heap.size 1 (some ⟨L, 0, none⟩) i ((List.range i).map V) := by
        refine ⟨by simp, fun _ => ⟨_, rfl, hLW, fun j u hu => ?_⟩⟩
        have hj : j < i := by have := (List.getElem?_eq_some_iff.1 hu).1; simpa using this
        have hv : V j = u := by simpa [hj] using hu
        have he : (⟨L, 0, none⟩ : Addr).add j = ⟨L, j, none⟩ := by unfold Addr.add; split <;> simp_all
        rw [he, hAll.cell j hj, hv]
      have hone : ∀ u ∈ (List.range i).map V, u.oneCell' = true := by
        intro u hu
        obtain ⟨j, hj, rfl⟩ := List.mem_map.1 hu
        obtain ⟨A, c, hV⟩ := own_slice (hL.row j (List.mem_range.1 hj))
        rw [hV]
        rfl
      have hnn : ¬ ((i : Nat) : Int) < ((i : Nat) : Int) := by omega
      clear hq hi hLi
      go_wp2_with (at_builtin; refine wpList_append_any _ rfl (.tmp 35) (.tmp 36) _ rfl W0.heap.size 22 i0 _ 1 24 Tryz.underlying46 hi0 hz0 hz1 hz2 rfl (by omega) (.slice (some ⟨W0.heap.size, 0, none⟩) 0 0) 0 [] rfl (World.ownsRow_made W0 #[] 0 (Nat.le_refl _) (by unfold maxLen; omega) rfl) W0.heap.size (some ⟨L, 0, none⟩) i cL ((List.range i).map V) rfl (hrd.alloc (Nat.le_refl _) _) hone (by unfold maxLen; omega) (by omega) (by simp) ?_; intro v5 w5 hown5 hg5 hat5; rw [Nat.zero_add, List.nil_append] at hown5; obtain ⟨A5, c5, rfl⟩ := own_slice hown5)
      obtain ⟨GR, rfl⟩ := own_some hown5 (by omega)
      have hb5 := ((Below.refl W0.heap.size W0).alloc (Nat.le_refl _) (.cells #[] 22)).grown hg5 (by simp) (fun k hk => by simp [Value.ownBlock] at hk; omega)
      have hGR := hown5.lt GR rfl
      have hlt0 : ∀ j, j < i → ∀ x, (V j).ownBlock = some x → x < W0.heap.size := fun j hj x hx => ((hAll.row j hj).lt x hx).2
      have hgc5 : ∀ j, j < i → w5.cell? ⟨GR, j, none⟩ = some (V j) := fun j hj => by
        rw [hown5.cellAt j (by omega)]
        simp [hj]
      have hgf5 : ∀ j, w5.frozen? ⟨GR, j, none⟩ = false := fun j => hown5.frozenAt j
      have hGr : Grown B w w5 L GR i V V n n := {
        ls := hAll.below hLW hb5
        row := fun j hj => own_below (hAll.row j hj) hb5
        nm := fun _ _ => Nat.le_refl _
        lg := ⟨by have := hb5.size; omega, hGR.2, by omega⟩
        vfar := fun j hj x hx => by have := hlt0 j hj x hx; omega
        gfar := fun j hj x hx => ⟨by have := hlt0 j hj x hx; omega, hAll.far j hj x hx⟩
        dis := fun j k hj hk hne x hx => ⟨hAll.dis j k hj hk hne x hx, hAll.dis j k hj hk hne x hx⟩
        gs := fun j hj x hx => .inl ⟨j, hj, hx⟩
        keep := hK.trans (Keep.of_below hb5) }
      have hG0 : w.heap.size ≤ GR := by omega
      clear hAll hK hrd hone hown5 hg5 hat5 hb5 hlt0 hXl hLW
      go_wp2_with fail
      go_loopg [6] 40 (fun q v6 wr => ∃ (q6 : Nat) (G : Nat → Value), v6 = .int .i64 q6 ∧ q6 + q = 40 ∧ Grown B w wr L GR i V G n (fun j => n j + q6) ∧ (∀ j, j < i → wr.cell? ⟨GR, j, none⟩ = some (G j)) ∧ ∀ j, wr.frozen? ⟨GR, j, none⟩ = false)
      case atStart => exact ⟨0, V, rfl, by omega, hGr, hgc5, hgf5⟩
      case round =>
        clear hGr hgc5 hgf5
        obtain ⟨q6, G, rfl, hq, hGr, hgc, hgf⟩ := hrel
        by_cases h40 : q6 < 40
        · have Hq := Lib.hid hq
          clear hq
          have h40' : (q6 : Int) < 40 := by omega
          go_wp2_with fail
          go_loopg [7] i (fun q v7 wr => ∃ (k : Nat) (G : Nat → Value), v7 = .int .i64 k ∧ k + q = i ∧ Grown B w wr L GR i V G n (fun j => if j < k then n j + q6 + 1 else n j + q6) ∧ (∀ j, j < i → wr.cell? ⟨GR, j, none⟩ = some (G j)) ∧ ∀ j, wr.frozen? ⟨GR, j, none⟩ = false)
          case atStart => exact ⟨0, G, rfl, by omega, by simpa using hGr, hgc, hgf⟩
          case round =>
            clear hGr hgc hgf
            obtain ⟨k, G1, rfl, hq, hGr, hgc, hgf⟩ := hrel
            by_cases hk : k < i
            · have Hqk := Lib.hid hq
              clear hq
              have hrow := hGr.row k hk
              simp only [if_neg (show ¬ k < k from Nat.lt_irrefl k)] at hrow
              obtain ⟨A, c, hV⟩ := own_slice hrow
              have hcell := hgc k hk
              have hnk := hn k hk
              rw [hV] at hrow hcell
              obtain ⟨ni, Hni⟩ : ∃ x, Hid (x = n k + q6) := ⟨_, Lib.hid rfl⟩
              rw [← Hni.out] at hrow hcell hV
              have hnb : ni < 200000 := by have := Hni.out; omega
              have hbA := ((Below.refl wr.heap.size wr).alloc (Nat.le_refl _) (.cells #[.int .u8 ((17 * (k : Int) + 5 * (ni : Int) + 3) % 256)] 5)).drew
              have hGA := hGr.below hbA
              have hAp : ∀ v' w', w'.ownsRow B 5 1 v' (ni + 1) (marks k ni ++ [.int .u8 ((17 * (k : Int) + 5 * (ni : Int) + 3) % 256)]) →
                  ((∃ g cap, Value.slice A ni c = .slice (some ⟨g, 0, none⟩) ni cap ∧ v' = .slice (some ⟨g, 0, none⟩) (ni + 1) cap ∧ (wr.alloc (.cells #[.int .u8 ((17 * (k : Int) + 5 * (ni : Int) + 3) % 256)] 5)).drew.grownBy w' (some g)) ∨ ((v'.ownBlock = some (wr.alloc (.cells #[.int .u8 ((17 * (k : Int) + 5 * (ni : Int) + 3) % 256)] 5)).drew.heap.size ∨ v'.ownBlock = none) ∧ Below (wr.alloc (.cells #[.int .u8 ((17 * (k : Int) + 5 * (ni : Int) + 3) % 256)] 5)).drew.heap.size (wr.alloc (.cells #[.int .u8 ((17 * (k : Int) + 5 * (ni : Int) + 3) % 256)] 5)).drew w')) →
                  Grown B w w' L GR i V (fun j => if j = k then v' else G1 j) n (fun j => if j < k + 1 then n j + q6 + 1 else n j + q6) ∧ ∀ j, w'.cell? ⟨GR, j, none⟩ = wr.cell? ⟨GR, j, none⟩ ∧ w'.frozen? ⟨GR, j, none⟩ = wr.frozen? ⟨GR, j, none⟩ := by
                intro v' w' h1 h2
                have hm : (if k < k then n k + q6 + 1 else n k + q6) = ni := by rw [if_neg (Nat.lt_irrefl k)]; exact Hni.out.symm
                rw [← hV] at h2
                have h3 := hGA.append (w' := w') hk (v' := v') (by simp only [hm]; exact h1) (by simp only [hm]; exact h2)
                refine ⟨?_, fun j => ⟨(h3.2 j).1.trans (hbA.cell (p := ⟨GR, j, none⟩) hGr.lg.2.1), (h3.2 j).2.trans (World.frozen?_of_block (hbA.block GR hGr.lg.2.1))⟩⟩
                have hfm : (fun j => if j = k then (fun j => if j < k then n j + q6 + 1 else n j + q6) k + 1 else (fun j => if j < k then n j + q6 + 1 else n j + q6) j) = (fun j => if j < k + 1 then n j + q6 + 1 else n j + q6) := by
                  funext j
                  by_cases e : j = k
                  · subst e; simp
                  · simp only [if_neg e]
                    by_cases e2 : j < k
                    · rw [if_pos e2, if_pos (by omega)]
                    · rw [if_neg e2, if_neg (by omega)]
                rw [hfm] at h3
                exact h3.1
              have hrowA := own_below hrow hbA
              have hcA := (hbA.cell (p := ⟨GR, k, none⟩) hGr.lg.2.1).trans hcell
              have hzA := hbA.size
              have hBw : B ≤ (wr.alloc (.cells #[.int .u8 ((17 * (k : Int) + 5 * (ni : Int) + 3) % 256)] 5)).drew.heap.size := by have := hGr.keep.size; omega
              obtain ⟨i1, hi1, hy0, hy1, hy2⟩ := info_parts byte_info
              have hgl := hGr.lg
              have hcw := hcell
              have hcd : wr.drew.cell? ⟨GR, k, none⟩ = some (.slice A ni c) := hcell
              clear hGr hGA
              go_upto_region 15 with fail
              go_region_law (first
                | (refine step_append_keep _ rfl (.tmp 53) (.tmp 61) _ rfl B 5 i1 _ 1 1 Tryz.underlying22 hi1 hy0 hy1 hy2 rfl (by omega) (.slice A ni c) ni (marks k ni) rfl hrowA ⟨wr.heap.size, 0, none⟩ 1 1 [.int .u8 ((17 * (k : Int) + 5 * (ni : Int) + 3) % 256)] rfl (by simp) (fun j u h => cell_one_new wr _ _ j u h) (by simp [Value.oneCell']) (by unfold maxLen; omega) (by omega) hBw ?_; intro v4 w4 hown4 hc4; obtain ⟨A4, c4, rfl⟩ := own_slice hown4; have hA4 := hAp _ w4 hown4 hc4; have hc4' := (hA4.2 k).1.trans hcw; have hf4 : ∀ j, w4.frozen? ⟨GR, j, none⟩ = false := fun j => (hA4.2 j).2.trans (hgf j))
                | (go_simp; go_at_call 64; refine (mark_any k ni _ (by omega) (by omega)).mono ?_; rintro e w' ⟨rfl, rfl⟩))
              all_goals
                (have hcn : ∀ j, j < i → (w4.setCell ⟨GR, k, none⟩ (.slice A4 (ni + 1) c4)).cell? ⟨GR, j, none⟩ = some (if j = k then .slice A4 (ni + 1) c4 else G1 j) := by
                  intro j hj
                  by_cases e : j = k
                  · subst e
                    rw [if_pos rfl]
                    exact World.cell?_setCell_same w4 _ _ hc4'
                  · rw [if_neg e, World.cell?_setCell_other w4 _ _ _ (by intro h; injection h with _ h2; exact e h2.symm), (hA4.2 j).1]
                    exact hgc j hj
                 have hfn : ∀ j, (w4.setCell ⟨GR, k, none⟩ (.slice A4 (ni + 1) c4)).frozen? ⟨GR, j, none⟩ = false := fun j => by rw [World.frozen?_setCell]; exact hf4 j
                 have hGn := hA4.1.storeG hG0 k (.slice A4 (ni + 1) c4)
                 clear hA4 hAp hcA hcell hcw hgc hgf
                 go_wp2_with fail
                 go_roundg (i - (k + 1))
                 case measure => have := Hqk.out; omega
                 case rel => have := Hqk.out; exact ⟨k + 1, _, by go_num, by omega, hGn, hcn, hfn⟩)
            · obtain rfl : k = i := by omega
              have hGn : Grown B w wr L GR k V G1 n (fun j => n j + (q6 + 1)) := { hGr with
                row := fun j hj => by have h := hGr.row j hj; simp only [if_pos hj] at h; exact h
                nm := fun j _ => Nat.le_add_right _ _ }
              have hkk : ¬ ((k : Nat) : Int) < ((k : Nat) : Int) := by omega
              clear hq hGr
              go_wp2_with fail
              go_roundg (40 - (q6 + 1))
              case measure => have := Hq.out; omega
              case rel => have := Hq.out; exact ⟨q6 + 1, G1, by go_num, by omega, hGn, hgc, hgf⟩
        · obtain rfl : q6 = 40 := by omega
          have h40' : ¬ ((40 : Nat) : Int) < 40 := by omega
          obtain ⟨W6, rfl⟩ : ∃ W : World, W = wr := ⟨_, rfl⟩
          clear hq h40
          go_wp2_with fail
          go_loopg [8] i (fun q v8 wr => ∃ (k d : Nat), v8 = .int .i64 k ∧ k + q = i ∧ wr = W6.drewN d)
          case atStart => exact ⟨0, 0, rfl, by omega, rfl⟩
          case round =>
            obtain ⟨k, d, rfl, hq, rfl⟩ := hrel
            by_cases hk : k < i
            · have Hq := Lib.hid hq
              clear hq
              have hrg := hGr.row k hk
              obtain ⟨Ag, cg, hG⟩ := own_slice hrg
              have hrv := hGr.ls.row k hk
              obtain ⟨Av, cv, hV⟩ := own_slice hrv
              have hcg := hgc k hk
              have hcv := hGr.ls.cell k hk
              rw [hG] at hrg hcg
              rw [hV] at hrv hcv
              have hnk := hn k hk
              obtain ⟨ni, Hni⟩ : ∃ x, Hid (x = n k) := ⟨_, Lib.hid rfl⟩
              rw [← Hni.out] at hrg hcg hrv hcv hnk
              have hni : ni ≤ 100000 := hnk
              clear hnk hG hV
              go_wp2_with fail
              go_loopg [9] (ni + 40) (fun q v9 wr => ∃ (t d : Nat), v9 = .int .i64 t ∧ t + q = ni + 40 ∧ wr = W6.drewN d)
              case atStart => exact ⟨0, d, rfl, by omega, rfl⟩
              case round =>
                obtain ⟨t, d2, rfl, hqt, rfl⟩ := hrel
                by_cases ht : t < ni + 40
                · have Hqt := Lib.hid hqt
                  clear hqt
                  obtain ⟨g, rfl⟩ := own_some hrg (by omega)
                  have hct : W6.cell? ⟨g, t, none⟩ = some (.int .u8 ((17 * (k : Int) + 5 * (t : Int) + 3) % 256)) := by
                    rw [hrg.cellAt t (by omega), marks_get ht]
                    rfl
                  have hcg1 : (W6.drewN d2).cell? ⟨GR, k, none⟩ = some (.slice (some ⟨g, 0, none⟩) (ni + 40) cg) := hcg
                  have hcg2 : (W6.drewN d2).drew.cell? ⟨GR, k, none⟩ = some (.slice (some ⟨g, 0, none⟩) (ni + 40) cg) := hcg
                  have hct2 : (W6.drewN d2).drew.cell? ⟨g, t, none⟩ = some (.int .u8 ((17 * (k : Int) + 5 * (t : Int) + 3) % 256)) := hct
                  have hlt : (t : Int) < (ni : Int) + 40 := by omega
                  have hlt2 : (t : Int) < ((ni + 40 : Nat) : Int) := by omega
                  go_upto_region 22 with fail
                  go_region_held3 (fun w' => w'.cell? ⟨GR, k, none⟩ = some (.slice (some ⟨g, 0, none⟩) (ni + 40) cg) ∧ w'.cell? ⟨g, t, none⟩ = some (.int .u8 ((17 * (k : Int) + 5 * (t : Int) + 3) % 256))) (exact ⟨hcg2, hct2⟩) (first
                    | (go_at_call 64; refine (mark_any k t _ (by omega) (by omega)).mono ?_; rintro e w' ⟨rfl, rfl⟩))
                  go_wp2_with fail
                  go_roundg (ni + 40 - (t + 1))
                  case measure => have := Hqt.out; omega
                  case rel => have := Hqt.out; exact ⟨t + 1, d2 + 1, by go_num, by omega, rfl⟩
                · obtain rfl : t = ni + 40 := by omega
                  have hcg1 : (W6.drewN d2).cell? ⟨GR, k, none⟩ = some (.slice Ag (ni + 40) cg) := hcg
                  have hge : ¬ ((ni + 40 : Nat) : Int) < (ni : Int) + 40 := by omega
                  have hge2 : ¬ ((ni + 40 : Nat) : Int) < ((ni + 40 : Nat) : Int) := by omega
                  clear hqt ht
                  go_wp2_with fail
                  go_loopg [10] ni (fun q v10 wr => ∃ (t d : Nat), v10 = .int .i64 t ∧ t + q = ni ∧ wr = W6.drewN d)
                  case atStart => exact ⟨0, d2, rfl, by omega, rfl⟩
                  case round =>
                    clear hcg1 hge hge2
                    obtain ⟨t, d3, rfl, hqt, rfl⟩ := hrel
                    by_cases ht : t < ni
                    · have Hqt := Lib.hid hqt
                      clear hqt
                      obtain ⟨g, rfl⟩ := own_some hrv (by omega)
                      have hct : W6.cell? ⟨g, t, none⟩ = some (.int .u8 ((17 * (k : Int) + 5 * (t : Int) + 3) % 256)) := by
                        rw [hrv.cellAt t (by omega), marks_get (by have := Hni.out; omega)]
                        rfl
                      have hcv1 : (W6.drewN d3).cell? ⟨L, k, none⟩ = some (.slice (some ⟨g, 0, none⟩) ni cv) := hcv
                      have hcv2 : (W6.drewN d3).drew.cell? ⟨L, k, none⟩ = some (.slice (some ⟨g, 0, none⟩) ni cv) := hcv
                      have hct2 : (W6.drewN d3).drew.cell? ⟨g, t, none⟩ = some (.int .u8 ((17 * (k : Int) + 5 * (t : Int) + 3) % 256)) := hct
                      have hlt : (t : Int) < (ni : Int) := by omega
                      go_upto_region 27 with fail
                      go_region_held3 (fun w' => w'.cell? ⟨L, k, none⟩ = some (.slice (some ⟨g, 0, none⟩) ni cv) ∧ w'.cell? ⟨g, t, none⟩ = some (.int .u8 ((17 * (k : Int) + 5 * (t : Int) + 3) % 256))) (exact ⟨hcv2, hct2⟩) (first
                        | (go_at_call 64; refine (mark_any k t _ (by omega) (by omega)).mono ?_; rintro e w' ⟨rfl, rfl⟩))
                      go_wp2_with fail
                      go_roundg (ni - (t + 1))
                      case measure => have := Hqt.out; omega
                      case rel => have := Hqt.out; exact ⟨t + 1, d3 + 1, by go_num, by omega, rfl⟩
                    · obtain rfl : t = ni := by omega
                      have hcv1 : (W6.drewN d3).cell? ⟨L, k, none⟩ = some (.slice Av t cv) := hcv
                      have hge : ¬ ((t : Nat) : Int) < ((t : Nat) : Int) := by omega
                      clear hqt ht
                      go_wp2_with fail
                      go_roundg (i - (k + 1))
                      case measure => have := Hq.out; omega
                      case rel => have := Hq.out; exact ⟨k + 1, d3, by go_num, by omega, rfl⟩
            · obtain rfl : k = i := by omega
              have hge : ¬ ((k : Nat) : Int) < ((k : Nat) : Int) := by omega
              have hKf := hGr.keep
              clear hq hk hGr hgc hgf
              go_wp2_with fail
              go_ret
              exact ⟨rfl, hKf.drewN d⟩
end Go.Proofs.YtlldgfejcjnpkaaGreat
