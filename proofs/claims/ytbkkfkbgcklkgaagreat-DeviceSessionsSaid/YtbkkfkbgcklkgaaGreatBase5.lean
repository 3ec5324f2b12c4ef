/- The base of the laws, part 5: contracts and plain lemmas, no statement. -/
import Derived.Test.YtbkkfkbgcklkgaaGreatBase4
import Derived.Deep.RegionHeld3
/- The other calls of package diag. -/
namespace Go.Proofs.YtbkkfkbgcklkgaaGreat
open Go.RowKit
set_option maxHeartbeats 400000
set_option maxRecDepth 100000

theorem diagNew_any (w : World) : Calls Tryz.prog 45 #[] w fun e w' => ∃ a, e = .returned (.pointer (some ⟨a, 0, none⟩)) ∧ DiagIs w' a [] (fun x => w.heap.size ≤ x ∧ x < w'.heap.size) ∧ Below w.heap.size w w' := by
  have hmm := @run_makeMap Tryz.prog
  go_enter Tryz.func45, Tryz.ntmps45
  go_wp2_with fail
  refine (meterNew_any _).mono ?_
  rintro e w' ⟨rfl, rfl⟩
  go_wp2_with fail
  go_ret
  have hsz : (((w.alloc (.cells (meterCells 0 none) 216)).alloc (.map #[] 0)).alloc (.cells #[.pointer (some ⟨w.heap.size, 0, none⟩), .map (some (w.heap.size + 1)), .slice none 0 0] 155)).heap.size = w.heap.size + 3 := by simp
  refine ⟨w.heap.size + 2, rfl, ⟨fun i r h => by simp at h, w.heap.size, w.heap.size + 1, .slice none 0 0, none, [], ⟨?_, ?_, .inl ⟨rfl, rfl⟩, ?_, by simp, (fun c b h => by cases h), fun c h => rfl, by simp, World.ownsRow_nil _ _ _ _, ?_, ?_, ?_, (fun g h => by cases h), (fun p h => by cases h), (fun p h => by cases h)⟩, (fun c b h => by cases h)⟩, ?_⟩
  · exact Blk.new' _ _ _ (by simp)
  · exact ((Blk.new w _ _).alloc _).alloc _
  · exact (Below.heap_alloc _ _ _ (by simp)).trans (by
      show ((w.alloc (.cells (meterCells 0 none) 216)).heap.push (.map #[] 0))[w.heap.size + 1]? = _
      rw [show w.heap.size + 1 = (w.alloc (.cells (meterCells 0 none) 216)).heap.size by simp, Array.getElem?_push_size]
      rfl)
  · rw [hsz]; omega
  · rw [hsz]; omega
  · rw [hsz]; omega
  · exact (((Below.refl _ _).alloc (Nat.le_refl _) _).alloc (by simp) _).alloc (by simp; omega) _

theorem diagTotal_any (a : Nat) (L : List Rec) (F : Nat → Prop) (w : World) (hD : DiagIs w a L F) (hs : L.length < 1073741823) :
    Calls Tryz.prog 74 #[.pointer (some ⟨a, 0, none⟩)] w fun e w' => e = .returned (.int .i64 L.length) ∧ w' = w := by
  obtain ⟨_, bm, mp, vl, last, cs, D, _⟩ := hD
  have hA0 : ∀ i, w.cell? ⟨a, i, none⟩ = (#[.pointer (some ⟨bm, 0, none⟩), .map (some mp), vl] : Array Value)[i]? := D.self.cell
  go_enter Tryz.func74, Tryz.ntmps74
  go_wp2_with fail
  refine (meterTotal_any bm _ _ _ D.all).mono ?_
  rintro e w' ⟨rfl, rfl⟩
  go_wp2_with fail
  go_ret
  exact ⟨rfl, rfl⟩

theorem kept_length (L : List Rec) : (kept L).length ≤ 16 := by unfold kept; rw [List.length_drop]; omega
theorem diagRecords_any (a : Nat) (L : List Rec) (F : Nat → Prop) (w : World) (hD : DiagIs w a L F) :
    Calls Tryz.prog 73 #[.pointer (some ⟨a, 0, none⟩)] w fun e w' => ∃ v, e = .returned v ∧ w'.ownsRow w.heap.size 175 4 v (kept L).length (recsCells (kept L)) ∧ Below w.heap.size w w' := by
  obtain ⟨_, bm, mp, vl, last, cs, D, _⟩ := hD
  obtain ⟨A, c, rfl⟩ := own_slice D.row
  have hA0 : ∀ i, w.cell? ⟨a, i, none⟩ = (#[.pointer (some ⟨bm, 0, none⟩), .map (some mp), .slice A (kept L).length c] : Array Value)[i]? := D.self.cell
  have hle := kept_length L
  go_enter Tryz.func73, Tryz.ntmps73
  go_wp2_with fail
  refine (cloneRec_any A _ c (recsCells (kept L)) _ ?_ (Reads.of_own D.row) (recsCells_one _) (by omega)).mono ?_
  · rintro rfl
    rcases D.row.2 with ⟨h, _⟩ | ⟨g, cap, cur, h, _⟩
    · injection h
    · injection h with h1; cases h1
  rintro e w' ⟨v, rfl, hown, hb⟩
  go_wp2_with fail
  go_ret
  exact ⟨_, rfl, hown, hb⟩

theorem diagNote_nil (c s k : Int) (w : World) : Calls Tryz.prog 50 #[.pointer none, .int .i64 c, .int .u32 s, .int .u32 k] w fun e w' => e = .returned (.tuple #[.int .i64 0, .int .i64 1]) ∧ w' = w := by
  go_enter Tryz.func50, Tryz.ntmps50
  go_wp2_with fail
  go_ret2
  exact ⟨rfl, rfl⟩
theorem diagNote_ok (a : Nat) (s k : Int) (w : World) : Calls Tryz.prog 50 #[.pointer (some ⟨a, 0, none⟩), .int .i64 0, .int .u32 s, .int .u32 k] w fun e w' => e = .returned (.tuple #[.int .i64 0, .int .i64 2]) ∧ w' = w := by
  go_enter Tryz.func50, Tryz.ntmps50
  go_wp2_with fail
  go_ret2
  exact ⟨rfl, rfl⟩
theorem diagTotal_nil (w : World) : Calls Tryz.prog 74 #[.pointer none] w fun e w' => e = .returned (.int .i64 0) ∧ w' = w := by
  go_enter Tryz.func74, Tryz.ntmps74
  go_wp2_with fail
  go_ret
  exact ⟨rfl, rfl⟩
theorem diagRecords_nil (w : World) : Calls Tryz.prog 73 #[.pointer none] w fun e w' => e = .returned (.slice none 0 0) ∧ w' = w := by
  go_enter Tryz.func73, Tryz.ntmps73
  go_wp2_with fail
  go_ret
  exact ⟨rfl, rfl⟩
end Go.Proofs.YtbkkfkbgcklkgaaGreat
/- unit.Decode by its contract. -/
namespace Go.Proofs.YtbkkfkbgcklkgaaGreat
open Go.RowKit
set_option maxHeartbeats 10000000
set_option maxRecDepth 100000

theorem Blk.store6 {w : World} {g : Nat} {t : TypeId} {a0 a1 a2 a3 a4 a5 : Value} (h : Blk w g t #[a0, a1, a2, a3, a4, a5]) (b0 b1 b2 b3 b4 b5 : Value) :
    Blk ((((((w.setCell ⟨g, 0, none⟩ b0).setCell ⟨g, 1, none⟩ b1).setCell ⟨g, 2, none⟩ b2).setCell ⟨g, 3, none⟩ b3).setCell ⟨g, 4, none⟩ b4).setCell ⟨g, 5, none⟩ b5) g t #[b0, b1, b2, b3, b4, b5] := by
  have := (((((h.set_ 0 b0).set_ 1 b1).set_ 2 b2).set_ 3 b3).set_ 4 b4).set_ 5 b5
  simpa using this
theorem below_store6 {B : Nat} {w0 w : World} {g : Nat} (h : Below B w0 w) (hg : B ≤ g) (b0 b1 b2 b3 b4 b5 : Value) :
    Below B w0 ((((((w.setCell ⟨g, 0, none⟩ b0).setCell ⟨g, 1, none⟩ b1).setCell ⟨g, 2, none⟩ b2).setCell ⟨g, 3, none⟩ b3).setCell ⟨g, 4, none⟩ b4).setCell ⟨g, 5, none⟩ b5) :=
  (((((h.setCell hg b0).setCell hg b1).setCell hg b2).setCell hg b3).setCell hg b4).setCell hg b5
/-- The same memory (draws are nobody's). -/
structure Same (w w' : World) : Prop where
  heap : w'.heap = w.heap
  os : w'.os = w.os
  tape : w'.tape = w.tape
  output : w'.output = w.output
theorem Same.refl (w : World) : Same w w := ⟨rfl, rfl, rfl, rfl⟩
theorem Same.of {w w1 w' : World} {k : Nat} (h : w' = w1.drewN k) (e : Same w w1) : Same w w' := by
  subst h
  exact ⟨e.heap, e.os, e.tape, e.output⟩
theorem Blk.same {w w' : World} {g : Nat} {t : TypeId} {cs : Array Value} (h : Blk w g t cs) (e : Same w w') : Blk w' g t cs := by
  unfold Blk at h ⊢
  rw [e.heap]
  exact h
theorem Reads.same {w w' : World} {B size n : Nat} {A : Option Addr} {xs : List Value} (h : Reads w B size A n xs) (e : Same w w') : Reads w' B size A n xs :=
  h.keep fun p _ => by unfold World.cell?; rw [e.heap]
theorem below_same {B : Nat} {w0 w w' : World} (h : Below B w0 w) (e : Same w w') : Below B w0 w' :=
  ⟨e.os.trans h.os, e.tape.trans h.tape, e.output.trans h.output, by rw [e.heap]; exact h.size, fun k hk => by rw [e.heap]; exact h.block k hk⟩
theorem size_same {B : Nat} {w w' : World} (h : B ≤ w.heap.size) (e : Same w w') : B ≤ w'.heap.size := by rw [e.heap]; exact h
theorem size_drew {B : Nat} {w : World} (h : B ≤ w.heap.size) : B ≤ w.drew.heap.size := h
theorem size_alloc {B : Nat} {w : World} (h : B ≤ w.heap.size) (o : Obj) : B ≤ (w.alloc o).heap.size := by simp; omega
theorem Reads.sub {w : World} {B : Nat} {ad : Addr} {n : Nat} {xs : List Value} (h : Reads w B 1 (some ad) n xs) (i m : Nat) (him : i + m ≤ n) : Reads w B 1 (some (ad.add i)) m ((xs.drop i).take m) := by
  refine ⟨by rw [List.length_take, List.length_drop, h.1]; omega, fun hm => ?_⟩
  obtain ⟨ad', e, hb, hc⟩ := h.2 (by omega)
  injection e with e
  subst e
  refine ⟨_, rfl, by rw [block_of_add]; exact hb, fun j u hu => ?_⟩
  rw [add_of_add]
  rw [List.getElem?_take] at hu
  split at hu
  · rw [List.getElem?_drop] at hu
    exact hc _ u hu
  · cases hu
theorem Reads.byte {w : World} {B : Nat} {ad : Addr} {n : Nat} {l : List UInt8} (h : Reads w B 1 (some ad) n (u8c l)) (i : Nat) (hi : i < n) : w.cell? (ad.add i) = some (.int .u8 ((l.getD i 0).toNat : Int)) := by
  obtain ⟨ad', e, hb, hc⟩ := h.2 (by omega)
  injection e with e
  subst e
  have hl : i < l.length := by have := h.1; simp [u8c] at this; omega
  apply hc
  rw [u8c_get]
  simp [List.getD, hl]
theorem Reads.two {w : World} {B : Nat} {ad : Addr} {n : Nat} {l : List UInt8} {b0 b13 : UInt8} (h : Reads w B 1 (some ad) n (u8c l)) (hn : 13 < n) (e0 : Hid (b0 = l.getD 0 0)) (e13 : Hid (b13 = l.getD 13 0)) :
    w.cell? ad = some (.int .u8 (b0.toNat : Int)) ∧ w.cell? ⟨ad.block, ad.off + 13, none⟩ = some (.int .u8 (b13.toNat : Int)) := by
  rw [e0.out, e13.out]
  exact ⟨h.byte 0 (by omega), h.byte 13 hn⟩
theorem Blk.far6 {w : World} {g g' : Nat} {t : TypeId} {cs : Array Value} (h : Blk w g t cs) (hne : g < g') (b0 b1 b2 b3 b4 b5 : Value) :
    Blk ((((((w.setCell ⟨g', 0, none⟩ b0).setCell ⟨g', 1, none⟩ b1).setCell ⟨g', 2, none⟩ b2).setCell ⟨g', 3, none⟩ b3).setCell ⟨g', 4, none⟩ b4).setCell ⟨g', 5, none⟩ b5) g t cs :=
  have e : ∀ j, g ≠ (⟨g', j, none⟩ : Addr).block := fun _ => Nat.ne_of_lt hne
  (((((h.far (e 0) b0).far (e 1) b1).far (e 2) b2).far (e 3) b3).far (e 4) b4).far (e 5) b5
theorem Reads.store6 {w : World} {B size n g : Nat} {A : Option Addr} {xs : List Value} (h : Reads w B size A n xs) (hg : B ≤ g) (b0 b1 b2 b3 b4 b5 : Value) :
    Reads ((((((w.setCell ⟨g, 0, none⟩ b0).setCell ⟨g, 1, none⟩ b1).setCell ⟨g, 2, none⟩ b2).setCell ⟨g, 3, none⟩ b3).setCell ⟨g, 4, none⟩ b4).setCell ⟨g, 5, none⟩ b5) B size A n xs :=
  (((((h.setCell hg b0).setCell hg b1).setCell hg b2).setCell hg b3).setCell hg b4).setCell hg b5
theorem unitGet_at (i : Nat) (ad : Addr) (n m c B : Nat) (l : List UInt8) (w : World) (hi : 0 < i) (hm : 4 ≤ m) (him : i + 4 ≤ n) (h : Reads w B 1 (some ad) n (u8c l)) :
    Calls Tryz.prog 131 #[.slice (some ⟨ad.block, ad.off + i, none⟩) m c] w fun e w' => e = .returned (.int .u32 (numAt l i)) ∧ ∃ k, w' = w.drewN k := by
  have e : ad.add i = ⟨ad.block, ad.off + i, none⟩ := by unfold Addr.add; rw [if_neg (by omega)]
  have g : ∀ j, (⟨ad.block, ad.off + i, none⟩ : Addr).add j = ad.add (i + j) := fun j => by rw [← e, add_of_add]
  refine unitGet_any _ m c (l.getD i 0) (l.getD (i + 1) 0) (l.getD (i + 2) 0) (l.getD (i + 3) 0) w hm ?_ ?_ ?_ ?_ <;> rw [g]
  · exact h.byte (i + 0) (by omega)
  · exact h.byte (i + 1) (by omega)
  · exact h.byte (i + 2) (by omega)
  · exact h.byte (i + 3) (by omega)
theorem u8c_sub (l : List UInt8) (i m : Nat) : ((u8c l).drop i).take m = u8c ((l.drop i).take m) := by simp [u8c, List.map_drop, List.map_take]
theorem numAt_nonneg (l : List UInt8) (i : Nat) : 0 ≤ numAt l i := by unfold numAt; omega
theorem lawful_head (k c s n f : Int) (d d' : List UInt8) : ((UnitM.mk k c s n f d).lawful = 43 ↔ (UnitM.mk k c s n f d').lawful = 43) ∧ ((UnitM.mk k c s n f d).lawful = 44 ↔ (UnitM.mk k c s n f d').lawful = 44) := by
  have key : ∀ d : List UInt8, ((UnitM.mk k c s n f d).lawful = 43 ↔ (!isHost k && !isDev k) = true) ∧ ((UnitM.mk k c s n f d).lawful = 44 ↔ (!isHost k && !isDev k) = false ∧ (c == 0) = true) := by
    intro d
    unfold UnitM.lawful
    simp only
    cases h1 : (!isHost k && !isDev k) with
    | true => simp
    | false =>
      cases h2 : (c == 0) with
      | true => simp
      | false =>
        simp only [Bool.false_eq_true, if_false]
        split
        · simp
        split
        · simp
        split
        · simp
        split <;> simp
  rw [(key d).1, (key d').1, (key d).2, (key d').2]
  exact ⟨Iff.rfl, Iff.rfl⟩
theorem unitDecode_any (A : Option Addr) (n c B : Nat) (l : List UInt8) (w : World) (hr : Reads w B 1 A n (u8c l)) (hB : B ≤ w.heap.size) (hc : n ≤ c) (hn : n ≤ 140737488351232) :
    Calls Tryz.prog 93 #[.slice A n c] w fun e w' => ∃ v, e = .returned (.tuple #[unitVal (decodeM l).1 v, .int .i64 (decodeM l).2]) ∧ w'.ownsRow w.heap.size 5 1 v (decodeM l).1.data.length (u8c (decodeM l).1.data) ∧ Below w.heap.size w w' := by
  have hl : l.length = n := by have := hr.1; simpa [u8c] using this
  have hbz : Below w.heap.size w (w.alloc (.cells #[.int .i64 0, .int .u32 0, .int .u32 0, .int .u32 0, .int .i64 0, .slice none 0 0] 68)) := (Below.refl _ _).alloc (Nat.le_refl _) _
  by_cases h19 : n < 19
  · have e : decodeM l = (.zero, 40) := by unfold decodeM; rw [if_pos (by omega)]
    rw [e]
    clear e
    go_enter Tryz.func93, Tryz.ntmps93
    go_wp2_with fail
    refine bodyPost_ret (v := .tuple #[unitVal .zero (.slice none 0 0), .int .i64 40]) (by simp [results, Tryz.results93, go_sem, unitVal, UnitM.zero]) rfl ⟨_, rfl, World.ownsRow_nil _ _ _ _, hbz⟩
  by_cases h27 : 27 < n
  · have e : decodeM l = (.zero, 41) := by unfold decodeM; rw [if_neg (by omega), if_pos (by omega)]
    rw [e]
    clear e
    go_enter Tryz.func93, Tryz.ntmps93
    go_wp2_with fail
    refine bodyPost_ret (v := .tuple #[unitVal .zero (.slice none 0 0), .int .i64 41]) (by simp [results, Tryz.results93, go_sem, unitVal, UnitM.zero]) rfl ⟨_, rfl, World.ownsRow_nil _ _ _ _, hbz⟩
  have hrz := hr.alloc hB (.cells #[.int .i64 0, .int .u32 0, .int .u32 0, .int .u32 0, .int .i64 0, .slice none 0 0] 68)
  cases hcrc : (crcOf 0#32 l == 0#32) with
  | false =>
    have hcrc' : crcOf 0#32 l ≠ 0#32 := by simpa using hcrc
    have e : decodeM l = (.zero, 42) := by unfold decodeM; rw [if_neg (by omega), if_neg (by omega), if_pos hcrc']
    rw [e]
    clear e hcrc'
    go_enter Tryz.func93, Tryz.ntmps93
    go_wp2_with fail
    refine (crcValid_any A n c l B _ hrz (by omega) (by omega)).mono ?_
    rintro e w1 ⟨rfl, k, rfl⟩
    rw [hcrc]
    have hz2 := (Blk.new w 68 #[.int .i64 0, .int .u32 0, .int .u32 0, .int .u32 0, .int .i64 0, .slice none 0 0]).drewN k
    have hb2 := belowN hbz k
    obtain ⟨g, Hg⟩ : ∃ g, Hid (g = w.heap.size) := ⟨_, Lib.hid rfl⟩
    rw [← Hg.out] at hz2 ⊢
    generalize (w.alloc (.cells #[.int .i64 0, .int .u32 0, .int .u32 0, .int .u32 0, .int .i64 0, .slice none 0 0] 68)).drewN k = W2 at *
    have hcz := hz2.cell
    have hfz := hz2.frozen
    clear hrz hbz
    go_wp2_with fail
    have hB3 := hz2.store6 (.int .i64 0) (.int .u32 0) (.int .u32 0) (.int .u32 0) (.int .i64 0) (.slice none 0 0)
    have hb3 := below_store6 hb2 (g := g) (by have := Hg.out; omega) (.int .i64 0) (.int .u32 0) (.int .u32 0) (.int .u32 0) (.int .i64 0) (.slice none 0 0)
    clear hcz hfz
    generalize (((((W2.setCell ⟨g, 0, none⟩ _).setCell ⟨g, 1, none⟩ _).setCell ⟨g, 2, none⟩ _).setCell ⟨g, 3, none⟩ _).setCell ⟨g, 4, none⟩ _).setCell ⟨g, 5, none⟩ _ = W3 at *
    have hcz := hB3.cell
    refine bodyPost_ret (v := .tuple #[unitVal .zero (.slice none 0 0), .int .i64 42]) (by simp [results, Tryz.results93, go_sem, unitVal, UnitM.zero, hcz]) rfl ⟨_, rfl, World.ownsRow_nil _ _ _ _, hb3⟩
  | true =>
    obtain ⟨ad, rfl⟩ : ∃ ad, A = some ad := by
      obtain ⟨ad, h, _⟩ := hr.2 (by omega)
      exact ⟨ad, h⟩
    have hadB : ad.block < B := by
      obtain ⟨ad', e, h, _⟩ := hr.2 (by omega)
      injection e with e
      rw [e]
      exact h
    obtain ⟨n', rfl⟩ : ∃ n', n = n' + 19 := ⟨n - 19, by omega⟩
    have hn8 : n' ≤ 8 := by omega
    obtain ⟨dm, Hdm⟩ : ∃ d, Hid (d = decodeM l) := ⟨_, Lib.hid rfl⟩
    obtain ⟨um, Hum⟩ : ∃ u, Hid (u = unitOf l) := ⟨_, Lib.hid rfl⟩
    obtain ⟨b0, Hb0⟩ : ∃ b, Hid (b = l.getD 0 0) := ⟨_, Lib.hid rfl⟩
    obtain ⟨b13, Hb13⟩ : ∃ b, Hid (b = l.getD 13 0) := ⟨_, Lib.hid rfl⟩
    obtain ⟨b14, Hb14⟩ : ∃ b, Hid (b = l.getD 14 0) := ⟨_, Lib.hid rfl⟩
    rw [← Hdm.out]
    have Hcrc := Lib.hid hcrc
    go_enter Tryz.func93, Tryz.ntmps93
    go_wp2_with fail
    refine (crcValid_any (some ad) _ c l B _ hrz (by omega) (by omega)).mono ?_
    rintro e w1 ⟨rfl, k, rfl⟩
    rw [hcrc]
    have hz2 := (Blk.new w 68 #[.int .i64 0, .int .u32 0, .int .u32 0, .int .u32 0, .int .i64 0, .slice none 0 0]).drewN k
    have hb2 := belowN hbz k
    have hr2 := hrz.drewN k
    have hs2 := hz2.lt
    obtain ⟨g, Hg⟩ : ∃ g, Hid (g = w.heap.size) := ⟨_, Lib.hid rfl⟩
    rw [← Hg.out] at hz2 hs2 ⊢
    generalize (w.alloc (.cells #[.int .i64 0, .int .u32 0, .int .u32 0, .int .u32 0, .int .i64 0, .slice none 0 0] 68)).drewN k = W2 at *
    clear hrz hbz hr hcrc
    go_upto_region 8 with fail
    have hsW := hb2.size
    go_cut [5] from 27 to 76 (fun v5 wc => ∃ g5, v5 = .pointer (some ⟨g5, 0, none⟩) ∧ g < g5 ∧ Blk wc g5 68 #[.int .i64 (b0.toNat : Int), .int .u32 (numAt l 1), .int .u32 (numAt l 5), .int .u32 (numAt l 9), .int .i64 (b13.toNat : Int), .slice none 0 0] ∧
      Blk wc g 68 #[.int .i64 0, .int .u32 0, .int .u32 0, .int .u32 0, .int .i64 0, .slice none 0 0] ∧ Reads wc B 1 (some ad) (n' + 19) (u8c l) ∧ Below w.heap.size w wc)
    case first =>
      have i0 : (0 : Int) < (n' : Int) + 19 := by omega
      have i13 : (13 : Int) < (n' : Int) + 19 := by omega
      have i1 : (1 : Int) ≤ (n' : Int) + 19 := by omega
      have i5 : (5 : Int) ≤ (n' : Int) + 19 := by omega
      have i9 : (9 : Int) ≤ (n' : Int) + 19 := by omega
      have c1 : ¬ c = 1 := by omega
      have c5 : ¬ c = 5 := by omega
      have c9 : ¬ c = 9 := by omega
      have ic : ((n' : Int) + 19) ≤ (c : Int) := by omega
      have hwr0 : IntKind.i64.wrap (b0.toNat : Int) = (b0.toNat : Int) := by have := b0.toNat_lt; exact IntWalk.i64_in _ (by omega)
      have hwr13 : IntKind.i64.wrap (b13.toNat : Int) = (b13.toNat : Int) := by have := b13.toNat_lt; exact IntWalk.i64_in _ (by omega)
      have hBW0 : B ≤ W2.heap.size := by omega
      have hBW := size_drew hBW0
      have hr0 := hr2
      have hz0 := hz2
      have hb0 := hb2
      replace hr2 := hr2.drew
      replace hz2 := hz2.drew
      replace hb2 := hb2.drew
      have p13 : 13 < n' + 19 := by omega
      go_wp2_with fail
      go_region_held3 (fun w' => w'.cell? ad = some (.int .u8 (b0.toNat : Int)) ∧ w'.cell? ⟨ad.block, ad.off + 13, none⟩ = some (.int .u8 (b13.toNat : Int))) (with_reducible (first | exact hr2.two p13 Hb0 Hb13 | exact (hr2.alloc hBW _).two p13 Hb0 Hb13 | exact (hr0.alloc hBW0 _).drew.two p13 Hb0 Hb13 | exact (hr2.store6 hBN _ _ _ _ _ _).two p13 Hb0 Hb13)) (first
        | (go_at_call 131; refine (unitGet_at _ ad (n' + 19) _ _ B l _ ?_ ?_ ?_ ?_).mono ?_; omega; omega; omega; with_reducible exact hr2; rintro e W ⟨rfl, k1, hW⟩; replace hz2 := hz2.same (Same.of hW (Same.refl _)); replace hb2 := below_same hb2 (Same.of hW (Same.refl _)); replace hBW := size_same hBW (Same.of hW (Same.refl _)); (try (replace hN := hN.same (Same.of hW (Same.refl _)); replace hNc := hN.cell; replace hNf := hN.frozen)); replace hr2 := hr2.same (Same.of hW (Same.refl _)); clear hW)
        | (go_at_call 131; refine (unitGet_at _ ad (n' + 19) _ _ B l _ ?_ ?_ ?_ ?_).mono ?_; omega; omega; omega; with_reducible exact hr2.alloc hBW _; rintro e W ⟨rfl, k1, hW⟩; have hBN := hBW; have hgN := hz2.lt; have hgW := hb2.size; replace hz2 := (hz2.alloc _).same (Same.of hW (Same.refl _)); replace hb2 := below_same (hb2.alloc hb2.size _) (Same.of hW (Same.refl _)); have hN := (Blk.new _ 68 #[.int .i64 0, .int .u32 0, .int .u32 0, .int .u32 0, .int .i64 0, .slice none 0 0]).same (Same.of hW (Same.refl _)); have hNc := hN.cell; have hNf := hN.frozen; replace hr2 := (hr2.alloc hBW _).same (Same.of hW (Same.refl _)); replace hBW := size_same (size_alloc hBW _) (Same.of hW (Same.refl _)); clear hW)
        | (go_at_call 131; refine (unitGet_at _ ad (n' + 19) _ _ B l _ ?_ ?_ ?_ ?_).mono ?_; omega; omega; omega; with_reducible exact (hr0.alloc hBW0 _).drew; rintro e W ⟨rfl, k1, hW⟩; have hBN := hBW0; have hgN := hz0.lt; have hgW := hb0.size; replace hz2 := ((hz0.alloc _).drew).same (Same.of hW (Same.refl _)); replace hb2 := below_same ((hb0.alloc hb0.size _).drew) (Same.of hW (Same.refl _)); have hN := ((Blk.new _ 68 #[.int .i64 0, .int .u32 0, .int .u32 0, .int .u32 0, .int .i64 0, .slice none 0 0]).drew).same (Same.of hW (Same.refl _)); have hNc := hN.cell; have hNf := hN.frozen; replace hr2 := ((hr0.alloc hBW0 _).drew).same (Same.of hW (Same.refl _)); replace hBW := size_same (size_drew (size_alloc hBW0 _)) (Same.of hW (Same.refl _)); clear hW))
      all_goals (go_wp2_with fail; go_meet)
      all_goals first
        | exact ⟨_, rfl, hz2.lt, Blk.new _ _ _, hz2.alloc _, hr2.alloc hBW _, hb2.alloc hb2.size _⟩
        | exact ⟨_, rfl, hgN, hN.store6 _ _ _ _ _ _, hz2.far6 hgN _ _ _ _ _ _, hr2.store6 hBN _ _ _ _ _ _, below_store6 hb2 hgW _ _ _ _ _ _⟩
    case rest =>
      obtain ⟨g5, rfl, hg5, hB5, hz5, hr5, hb5⟩ := hcut
      obtain ⟨W5, rfl⟩ : ∃ W : World, W = wc := ⟨_, rfl⟩
      clear hb2 hr2 hs2 hz2 hsW
      obtain ⟨data, Hdata⟩ : ∃ d, Hid (d = (l.drop 15).take n') := ⟨_, Lib.hid rfl⟩
      have hdl : data.length = n' := by rw [Hdata.out, List.length_take, List.length_drop]; omega
      have hrd : Reads W5 B 1 (some ⟨ad.block, ad.off + 15, none⟩) n' (u8c data) := by
        have := hr5.sub 15 n' (by omega)
        rw [u8c_sub, ← Hdata.out] at this
        exact this
      have h14c : W5.cell? ⟨ad.block, ad.off + 14, none⟩ = some (.int .u8 (b14.toNat : Int)) := by
        have := hr5.byte 14 (by omega)
        rw [← Hb14.out] at this
        exact this
      have Hunit : Hid (unitOf l = ⟨b0.toNat, numAt l 1, numAt l 5, numAt l 9, b13.toNat, data⟩) := Lib.hid (by
        unfold unitOf
        rw [← Hb0.out, ← Hb13.out, Hdata.out, hl, show n' + 19 - 19 = n' by omega])
      have Hdm2 : Hid (dm = (if (if (unitOf l).lawful ≠ 43 ∧ (unitOf l).lawful ≠ 44 ∧ (b14.toNat) ≠ (unitOf l).data.length then 45 else (unitOf l).lawful) ≠ 0 then (.zero, (if (unitOf l).lawful ≠ 43 ∧ (unitOf l).lawful ≠ 44 ∧ (b14.toNat) ≠ (unitOf l).data.length then 45 else (unitOf l).lawful)) else (unitOf l, 0))) := Lib.hid (by
        have hc0 : ¬ crcOf 0#32 l ≠ 0#32 := by have := Hcrc.out; simpa using this
        rw [Hdm.out, Hb14.out]
        unfold decodeM
        rw [if_neg (by omega), if_neg (by omega), if_neg hc0])
      clear Hdm Hcrc Hum hr5
      have n1 := numAt_nonneg l 5
      have n2 := numAt_nonneg l 9
      generalize numAt l 1 = q1 at *
      generalize numAt l 5 = q5 at *
      generalize numAt l 9 = q9 at *
      have hw14 : IntKind.i64.wrap (b14.toNat : Int) = (b14.toNat : Int) := by have := b14.toNat_lt; exact IntWalk.i64_in _ (by omega)
      have hcz := hz5.cell
      have hcf := hz5.frozen
      have hc5 := hB5.cell
      have hf5 := hB5.frozen
      have hsz5 := hb5.size
      by_cases h14 : b14.toNat = n'
      · have hq14 : ((b14.toNat : Int) == (n' : Int)) = true := by simp; omega
        have hq14' : ((b14.toNat : Int) != (n' : Int)) = false := by simp; omega
        have Hdm3 : Hid (dm = (if (UnitM.mk b0.toNat q1 q5 q9 b13.toNat data).lawful ≠ 0 then (.zero, (UnitM.mk b0.toNat q1 q5 q9 b13.toNat data).lawful) else (⟨b0.toNat, q1, q5, q9, b13.toNat, data⟩, 0))) := Lib.hid (by
          have e14 : ¬ ((UnitM.mk b0.toNat q1 q5 q9 b13.toNat data).lawful ≠ 43 ∧ (UnitM.mk b0.toNat q1 q5 q9 b13.toNat data).lawful ≠ 44 ∧ b14.toNat ≠ data.length) := fun h => h.2.2 (by rw [hdl]; exact h14)
          rw [Hdm2.out, Hunit.out, if_neg e14])
        have hlaw := fun A c w => unitLawful_any ⟨b0.toNat, q1, q5, q9, b13.toNat, data⟩ A c w n1 n2
        have Hlaw0 := Lib.hid (@UnitM.lawful_len ⟨b0.toNat, q1, q5, q9, b13.toNat, data⟩)
        unfold unitVal at hlaw
        simp only [hdl] at hlaw
        generalize (UnitM.mk b0.toNat q1 q5 q9 b13.toNat data).lawful = law at *
        clear Hdm2 Hunit Hlaw0
        go_wp2_with fail
        refine (cloneByte_any (some ⟨ad.block, ad.off + 15, none⟩) n' _ data B W5 (fun h => by cases h) hrd (by omega) (by omega)).mono ?_
        rintro e W6 ⟨v6, rfl, hown6, _, _, hb6⟩
        obtain ⟨A6, c6, rfl⟩ := own_slice hown6
        have hB6 := hB5.below hb6 hB5.lt
        have hz6 := hz5.below hb6 hz5.lt
        have hc6 := hB6.cell
        have hf6 := hB6.frozen
        have hb6' := hb5.trans (hb6.mono hsz5)
        have hblk6 : ∀ x, (Value.slice A6 n' c6).ownBlock = some x → W5.heap.size ≤ x := fun x hx => (hown6.lt x hx).1
        have hl5 := hB5.lt
        clear hcz hcf hc5 hf5
        go_wp2_with fail
        refine (hlaw _ _ _).mono ?_
        rintro e W7 ⟨rfl, hb7⟩
        have hB7 : Blk W7 g5 68 #[.int .i64 (b0.toNat : Int), .int .u32 q1, .int .u32 q5, .int .u32 q9, .int .i64 (b13.toNat : Int), .slice A6 n' c6] := by
          have := (hB6.set_ 5 (.slice A6 n' c6)).below hb7 (hB6.set_ 5 _).lt
          simpa using this
        have hz7 := (hz6.far (p := ⟨g5, 5, none⟩) (Nat.ne_of_lt hg5) (.slice A6 n' c6)).below hb7 (hz6.far (p := ⟨g5, 5, none⟩) (Nat.ne_of_lt hg5) _).lt
        have hb7' : Below w.heap.size w W7 := (hb6'.setCell (p := ⟨g5, 5, none⟩) (by have := Hg.out; simp; omega) (.slice A6 n' c6)).trans (hb7.mono (by simp [World.setCell]; exact hb6'.size))
        have hown7 : W7.ownsRow W5.heap.size 5 1 (.slice A6 n' c6) n' (u8c data) := by
          have hs6 : (W6.setCell ⟨g5, 5, none⟩ (.slice A6 n' c6)).heap.size = W6.heap.size := by simp [World.setCell]
          refine own_below (own_far hown6 (g := g5) (fun h => ?_) 5 _) hb7
          have := hblk6 _ h
          omega
        have h14d : W7.cell? ⟨ad.block, ad.off + 14, none⟩ = some (.int .u8 (b14.toNat : Int)) :=
          ((hb7'.cell (p := ⟨ad.block, ad.off + 14, none⟩) (Nat.lt_of_lt_of_le hadB hB)).trans (hb5.cell (p := ⟨ad.block, ad.off + 14, none⟩) (Nat.lt_of_lt_of_le hadB hB)).symm).trans h14c
        have hc7 := hB7.cell
        have hcz := hz7.cell
        have hcf := hz7.frozen
        clear hc6 hf6 hb7 hB6 hz6 hb6 hb6' hown6 hlaw h14c
        by_cases hl0 : law = 0
        · subst hl0
          go_wp2_with fail
          have hwg : w.heap.size ≤ g := by have := Hg.out; omega
          have hgW5 : g ≠ W5.heap.size := by have := hB5.lt; omega
          have hB8 := hz7.store6 (.int .i64 (b0.toNat : Int)) (.int .u32 q1) (.int .u32 q5) (.int .u32 q9) (.int .i64 (b13.toNat : Int)) (.slice A6 n' c6)
          have hb8 := below_store6 hb7' hwg (.int .i64 (b0.toNat : Int)) (.int .u32 q1) (.int .u32 q5) (.int .u32 q9) (.int .i64 (b13.toNat : Int)) (.slice A6 n' c6)
          have hAg : ∀ x, (Value.slice A6 n' c6).ownBlock = some x → x ≠ g := fun x hx e => by have := hblk6 x hx; omega
          have hfar : (Value.slice A6 n' c6).ownBlock ≠ some g := fun h => hAg g h rfl
          have hown8 := own_far (own_far (own_far (own_far (own_far (own_far hown7 hfar 0 (.int .i64 (b0.toNat : Int))) hfar 1 (.int .u32 q1)) hfar 2 (.int .u32 q5)) hfar 3 (.int .u32 q9)) hfar 4 (.int .i64 (b13.toNat : Int))) hfar 5 (.slice A6 n' c6)
          clear hcz hcf hc7
          generalize (((((W7.setCell ⟨g, 0, none⟩ _).setCell ⟨g, 1, none⟩ _).setCell ⟨g, 2, none⟩ _).setCell ⟨g, 3, none⟩ _).setCell ⟨g, 4, none⟩ _).setCell ⟨g, 5, none⟩ _ = W8 at *
          have hc8 := hB8.cell
          have hdm : dm = (⟨b0.toNat, q1, q5, q9, b13.toNat, data⟩, 0) := by rw [Hdm3.out, if_neg (by simp)]
          subst hdm
          refine bodyPost_ret (v := .tuple #[unitVal ⟨b0.toNat, q1, q5, q9, b13.toNat, data⟩ (.slice A6 n' c6), .int .i64 0]) (by simp [results, Tryz.results93, go_sem, unitVal, hc8]) rfl ⟨_, rfl, ?_, hb8⟩
          simp only [hdl]
          exact own_base hown8 hsz5
        · have hl0' : (law != 0) = true := by simpa using hl0
          go_wp2_with fail
          have hwg : w.heap.size ≤ g := by have := Hg.out; omega
          have hB8 := hz7.store6 (.int .i64 0) (.int .u32 0) (.int .u32 0) (.int .u32 0) (.int .i64 0) (.slice none 0 0)
          have hb8 := below_store6 hb7' hwg (.int .i64 0) (.int .u32 0) (.int .u32 0) (.int .u32 0) (.int .i64 0) (.slice none 0 0)
          clear hcz hcf hc7
          generalize (((((W7.setCell ⟨g, 0, none⟩ _).setCell ⟨g, 1, none⟩ _).setCell ⟨g, 2, none⟩ _).setCell ⟨g, 3, none⟩ _).setCell ⟨g, 4, none⟩ _).setCell ⟨g, 5, none⟩ _ = W8 at *
          have hc8 := hB8.cell
          have hdm : dm = (.zero, law) := by rw [Hdm3.out, if_pos hl0]
          subst hdm
          refine bodyPost_ret (v := .tuple #[unitVal .zero (.slice none 0 0), .int .i64 law]) (by simp [results, Tryz.results93, go_sem, unitVal, UnitM.zero, hc8]) rfl ⟨_, rfl, World.ownsRow_nil _ _ _ _, hb8⟩
      · have hq14 : ((b14.toNat : Int) == (n' : Int)) = false := by simp; omega
        have hq14' : ((b14.toNat : Int) != (n' : Int)) = true := by simp; omega
        have hlaw := fun A c w => unitLawful_any ⟨b0.toNat, q1, q5, q9, b13.toNat, []⟩ A c w n1 n2
        have hhead := lawful_head (b0.toNat : Int) q1 q5 q9 (b13.toNat : Int) data []
        have Hdm3 : Hid (dm = (.zero, if (UnitM.mk b0.toNat q1 q5 q9 b13.toNat []).lawful ≠ 43 ∧ (UnitM.mk b0.toNat q1 q5 q9 b13.toNat []).lawful ≠ 44 then 45 else (UnitM.mk b0.toNat q1 q5 q9 b13.toNat []).lawful)) := Lib.hid (by
          rw [Hdm2.out, Hunit.out]
          simp only [hdl, ne_eq, h14, not_false_eq_true, and_true]
          generalize (UnitM.mk b0.toNat q1 q5 q9 b13.toNat data).lawful = x at *
          generalize (UnitM.mk b0.toNat q1 q5 q9 b13.toNat []).lawful = y at *
          by_cases x43 : x = 43
          · have y43 := hhead.1.1 x43
            subst x43 y43
            simp
          · by_cases x44 : x = 44
            · have y44 := hhead.2.1 x44
              subst x44 y44
              simp
            · have y43 : ¬ y = 43 := fun h => x43 (hhead.1.2 h)
              have y44 : ¬ y = 44 := fun h => x44 (hhead.2.2 h)
              simp [x43, x44, y43, y44])
        unfold unitVal at hlaw
        simp only [List.length_nil] at hlaw
        generalize (UnitM.mk b0.toNat q1 q5 q9 b13.toNat []).lawful = law at *
        clear Hdm2 Hunit hhead
        go_wp2_with fail
        refine (hlaw _ _ _).mono ?_
        rintro e W7 ⟨rfl, hb7⟩
        have hz7 := hz5.below hb7 hz5.lt
        have hb7' := hb5.trans (hb7.mono hsz5)
        have h14d : W7.cell? ⟨ad.block, ad.off + 14, none⟩ = some (.int .u8 (b14.toNat : Int)) :=
          ((hb7'.cell (p := ⟨ad.block, ad.off + 14, none⟩) (Nat.lt_of_lt_of_le hadB hB)).trans (hb5.cell (p := ⟨ad.block, ad.off + 14, none⟩) (Nat.lt_of_lt_of_le hadB hB)).symm).trans h14c
        clear hcz hcf hc5 hf5 hlaw hb7 h14c
        have hcz := hz7.cell
        have hcf := hz7.frozen
        have hwg : w.heap.size ≤ g := by have := Hg.out; omega
        have hB8 := hz7.store6 (.int .i64 0) (.int .u32 0) (.int .u32 0) (.int .u32 0) (.int .i64 0) (.slice none 0 0)
        have hb8 := below_store6 hb7' hwg (.int .i64 0) (.int .u32 0) (.int .u32 0) (.int .u32 0) (.int .i64 0) (.slice none 0 0)
        by_cases x43 : law = 43
        · subst x43
          go_wp2_with fail
          clear hcz hcf
          generalize (((((W7.setCell ⟨g, 0, none⟩ _).setCell ⟨g, 1, none⟩ _).setCell ⟨g, 2, none⟩ _).setCell ⟨g, 3, none⟩ _).setCell ⟨g, 4, none⟩ _).setCell ⟨g, 5, none⟩ _ = W8 at *
          have hc8 := hB8.cell
          have hdm : dm = (.zero, 43) := by rw [Hdm3.out]; simp
          subst hdm
          refine bodyPost_ret (v := .tuple #[unitVal .zero (.slice none 0 0), .int .i64 43]) (by simp [results, Tryz.results93, go_sem, unitVal, UnitM.zero, hc8]) rfl ⟨_, rfl, World.ownsRow_nil _ _ _ _, hb8⟩
        · have g43 : (law != 43) = true := by simpa using x43
          by_cases x44 : law = 44
          · subst x44
            go_wp2_with fail
            clear hcz hcf
            generalize (((((W7.setCell ⟨g, 0, none⟩ _).setCell ⟨g, 1, none⟩ _).setCell ⟨g, 2, none⟩ _).setCell ⟨g, 3, none⟩ _).setCell ⟨g, 4, none⟩ _).setCell ⟨g, 5, none⟩ _ = W8 at *
            have hc8 := hB8.cell
            have hdm : dm = (.zero, 44) := by rw [Hdm3.out]; simp
            subst hdm
            refine bodyPost_ret (v := .tuple #[unitVal .zero (.slice none 0 0), .int .i64 44]) (by simp [results, Tryz.results93, go_sem, unitVal, UnitM.zero, hc8]) rfl ⟨_, rfl, World.ownsRow_nil _ _ _ _, hb8⟩
          · have g44 : (law != 44) = true := by simpa using x44
            go_wp2_with fail
            clear hcz hcf
            generalize (((((W7.setCell ⟨g, 0, none⟩ _).setCell ⟨g, 1, none⟩ _).setCell ⟨g, 2, none⟩ _).setCell ⟨g, 3, none⟩ _).setCell ⟨g, 4, none⟩ _).setCell ⟨g, 5, none⟩ _ = W8 at *
            have hc8 := hB8.cell
            have hdm : dm = (.zero, 45) := by rw [Hdm3.out]; simp [x43, x44]
            subst hdm
            refine bodyPost_ret (v := .tuple #[unitVal .zero (.slice none 0 0), .int .i64 45]) (by simp [results, Tryz.results93, go_sem, unitVal, UnitM.zero, hc8]) rfl ⟨_, rfl, World.ownsRow_nil _ _ _ _, hb8⟩
end Go.Proofs.YtbkkfkbgcklkgaaGreat
/- What both ends need: rows, units, valves. -/
namespace Go.Proofs.YtbkkfkbgcklkgaaGreat
open Go.RowKit
set_option maxHeartbeats 4000000
set_option maxRecDepth 100000

section
variable {B : Nat} {w w1 w2 w' : World} {F : Nat → Prop}
theorem grow_fb (hb : ∀ x, F x → B ≤ x ∧ x < w.heap.size) (hB : B ≤ w.heap.size) (hs : w.heap.size ≤ w'.heap.size) : ∀ x, grow F w w' x → B ≤ x ∧ x < w'.heap.size := by
  intro x hx
  rcases hx with hx | hx
  · have := hb x hx; omega
  · omega
theorem grow_grow (h1 : w.heap.size ≤ w1.heap.size) (h2 : w1.heap.size ≤ w2.heap.size) : ∀ x, grow (grow F w w1) w1 w2 x → grow F w w2 x := by
  intro x hx
  rcases hx with (hx | hx) | hx
  · exact .inl hx
  · exact .inr (by omega)
  · exact .inr (by omega)
end
theorem DiagIs.drew {w : World} {a : Nat} {F : Nat → Prop} {L : List Rec} (h : DiagIs w a L F) : DiagIs w.drew a L F := h.keep (S := fun _ => False) ((Keep.refl _ w).drew) (fun _ _ h => h) (fun _ h => h)
theorem unitEncode_at (k c s n f : Int) (data : List UInt8) (A : Option Addr) (len cap B : Nat) (w : World) (hlen : data.length = len) (hc : 0 ≤ c ∧ c < 4294967296) (hs : 0 ≤ s ∧ s < 4294967296) (hn : 0 ≤ n ∧ n < 4294967296) (hr : Reads w B 1 A len (u8c data)) (hB : B ≤ w.heap.size) :
    Calls Tryz.prog 185 #[.agg #[.int .i64 k, .int .u32 c, .int .u32 s, .int .u32 n, .int .i64 f, .slice A len cap]] w fun e w' => ∃ v er, e = .returned (.tuple #[v, .int .i64 er]) ∧ w'.ownsRow w.heap.size 5 1 v (UnitM.mk k c s n f data).encode.length (u8c (UnitM.mk k c s n f data).encode) ∧ Below w.heap.size w w' := by
  subst hlen
  refine (unitEncode_any ⟨k, c, s, n, f, data⟩ A cap B w ⟨hc, hs, hn⟩ hr hB).mono ?_
  rintro e w' ⟨v, rfl, h1, h2⟩
  exact ⟨v, _, rfl, h1, h2⟩
theorem Reads.far {w : World} {B size n : Nat} {A : Option Addr} {xs : List Value} (h : Reads w B size A n xs) {p : Addr} (hA : ∀ ad, A = some ad → ad.block ≠ p.block) (q : Value) : Reads (w.setCell p q) B size A n xs := by
  refine ⟨h.1, fun hn => ?_⟩
  obtain ⟨ad, e, hlt, hcl⟩ := h.2 hn
  refine ⟨ad, e, hlt, fun j y hy => ?_⟩
  rw [World.cell?_setCell_other _ _ _ _ (fun e2 => hA ad e (by rw [← block_of_add ad j, ← e2]))]
  exact hcl j y hy
theorem own_off {w : World} {base n c size u : Nat} {e : TypeId} {A : Option Addr} {xs : List Value} (h : w.ownsRow base e size (.slice A n c) n xs) (hu : u < base) : ∀ ad, A = some ad → ad.block ≠ u := by
  intro x hx e
  subst hx
  rcases h.2 with ⟨hy, _⟩ | ⟨g', _, _, hy, hg', _⟩
  · injection hy with hy; cases hy
  · injection hy with hy
    injection hy with hy
    subst hy
    simp at e
    omega
theorem Blk.farU {w : World} {g u : Nat} {t : TypeId} {cs : Array Value} (h : Blk w g t cs) (hne : u ≠ g) (i : Nat) (q : Value) : Blk (w.setCell ⟨u, i, none⟩ q) g t cs := h.far (fun e => hne e.symm) q
theorem valve_trip_val {V : ValveM} {code n : Int} (h : ∀ b, V.value = some b → (b.length : Int) = n) : ∀ b, (V.trip code).1.value = some b → (b.length : Int) = n := by
  intro b hb
  unfold ValveM.trip at hb
  split at hb
  · exact h b hb
  · cases hb
theorem valve_run_val {V : ValveM} {on : Bool} {n : Int} (h : ∀ b, V.value = some b → (b.length : Int) = n) : ∀ b, (V.run on).value = some b → (b.length : Int) = n := by
  intro b hb
  unfold ValveM.run at hb
  split at hb
  · exact h b hb
  · cases hb
def endVal (e : EndM) (x : Value) : Value := .agg #[.int .i64 e.state, .int .u32 e.session, .int .u32 e.number, .int .u32 e.sent, .int .i64 e.since, .int .i64 e.latched, .bool e.request, .bool e.on, x]
theorem Blk.store9 {w : World} {e0 : Nat} {t : TypeId} {b0 b1 b2 b3 b4 b5 b6 b7 b8 a0 a1 a2 a3 a4 a5 a6 a7 a8 : Value} (h : Blk w e0 t #[b0, b1, b2, b3, b4, b5, b6, b7, b8]) :
    Blk (((((((((w.setCell ⟨e0, 0, none⟩ a0).setCell ⟨e0, 1, none⟩ a1).setCell ⟨e0, 2, none⟩ a2).setCell ⟨e0, 3, none⟩ a3).setCell ⟨e0, 4, none⟩ a4).setCell ⟨e0, 5, none⟩ a5).setCell ⟨e0, 6, none⟩ a6).setCell ⟨e0, 7, none⟩ a7).setCell ⟨e0, 8, none⟩ a8) e0 t #[a0, a1, a2, a3, a4, a5, a6, a7, a8] := by
  simpa using ((((((((h.set_ 0 a0).set_ 1 a1).set_ 2 a2).set_ 3 a3).set_ 4 a4).set_ 5 a5).set_ 6 a6).set_ 7 a7).set_ 8 a8
theorem Blk.far9 {w : World} {g e0 : Nat} {t : TypeId} {cs : Array Value} {a0 a1 a2 a3 a4 a5 a6 a7 a8 : Value} (hb : Blk w g t cs) (hne : e0 ≠ g) : Blk (((((((((w.setCell ⟨e0, 0, none⟩ a0).setCell ⟨e0, 1, none⟩ a1).setCell ⟨e0, 2, none⟩ a2).setCell ⟨e0, 3, none⟩ a3).setCell ⟨e0, 4, none⟩ a4).setCell ⟨e0, 5, none⟩ a5).setCell ⟨e0, 6, none⟩ a6).setCell ⟨e0, 7, none⟩ a7).setCell ⟨e0, 8, none⟩ a8) g t cs := (((((((((hb.farU hne _ _).farU hne _ _).farU hne _ _).farU hne _ _).farU hne _ _).farU hne _ _).farU hne _ _).farU hne _ _).farU hne _ _)
theorem below9 {B : Nat} {w0 w : World} {e0 : Nat} {a0 a1 a2 a3 a4 a5 a6 a7 a8 : Value} (h : Below B w0 w) (he : B ≤ e0) : Below B w0 (((((((((w.setCell ⟨e0, 0, none⟩ a0).setCell ⟨e0, 1, none⟩ a1).setCell ⟨e0, 2, none⟩ a2).setCell ⟨e0, 3, none⟩ a3).setCell ⟨e0, 4, none⟩ a4).setCell ⟨e0, 5, none⟩ a5).setCell ⟨e0, 6, none⟩ a6).setCell ⟨e0, 7, none⟩ a7).setCell ⟨e0, 8, none⟩ a8) :=
  ((((((((h.setCell (p := ⟨e0, 0, none⟩) he _).setCell (p := ⟨e0, 1, none⟩) he _).setCell (p := ⟨e0, 2, none⟩) he _).setCell (p := ⟨e0, 3, none⟩) he _).setCell (p := ⟨e0, 4, none⟩) he _).setCell (p := ⟨e0, 5, none⟩) he _).setCell (p := ⟨e0, 6, none⟩) he _).setCell (p := ⟨e0, 7, none⟩) he _).setCell (p := ⟨e0, 8, none⟩) he _
theorem fr_trip {V : ValveM} {code : Int} (h : V.fresh = true → V.latched ≠ 0) : (V.trip code).1.fresh = true → (V.trip code).1.latched ≠ 0 := by
  unfold ValveM.trip
  split
  · exact h
  · intro h; cases h
theorem fr_run {V : ValveM} {on : Bool} (h : V.fresh = true → V.latched ≠ 0) : (V.run on).fresh = true → (V.run on).latched ≠ 0 := by
  unfold ValveM.run
  split <;> exact h
theorem fr_come (V : ValveM) : V.come.fresh = true → V.come.latched ≠ 0 := by
  unfold ValveM.come
  intro h
  simpa using h
theorem fr_take {V : ValveM} {b : List UInt8} (h : V.fresh = true → V.latched ≠ 0) : (V.take b).fresh = true → (V.take b).latched ≠ 0 := by
  unfold ValveM.take
  split <;> exact h
theorem fr_ack {V : ValveM} (h : V.fresh = true → V.latched ≠ 0) : V.ack.fresh = true → V.ack.latched ≠ 0 := by
  unfold ValveM.ack
  split
  · intro h; cases h
  · exact h
theorem numAt_ok (l : List UInt8) (i : Nat) : 0 ≤ numAt l i ∧ numAt l i < 4294967296 := by
  unfold numAt
  have := (ofWord (l.getD i 0) (l.getD (i + 1) 0) (l.getD (i + 2) 0) (l.getD (i + 3) 0)).isLt
  omega
theorem decode_ok (l : List UInt8) : (0 ≤ (decodeM l).1.session ∧ (decodeM l).1.session < 4294967296) ∧ (0 ≤ (decodeM l).1.number ∧ (decodeM l).1.number < 4294967296) ∧ (0 ≤ (decodeM l).1.code ∧ (decodeM l).1.code < 4294967296) := by
  unfold decodeM
  split
  · simp [UnitM.zero]
  split
  · simp [UnitM.zero]
  split
  · simp [UnitM.zero]
  · simp only
    generalize (if (unitOf l).lawful ≠ 43 ∧ (unitOf l).lawful ≠ 44 ∧ (l.getD 14 0).toNat ≠ (unitOf l).data.length then (45 : Int) else (unitOf l).lawful) = e
    split
    · simp [UnitM.zero]
    · exact ⟨numAt_ok l 5, numAt_ok l 9, numAt_ok l 1⟩
/-- What is decoded without a fault is lawful. -/
theorem decode_lawful (l : List UInt8) (h : (decodeM l).2 = 0) : (decodeM l).1.lawful = 0 ∧ (decodeM l).1 = unitOf l := by
  unfold decodeM at h ⊢
  split
  · rename_i h1; rw [if_pos h1] at h; cases h
  rename_i h1
  rw [if_neg h1] at h
  split
  · rename_i h2; rw [if_pos h2] at h; cases h
  rename_i h2
  rw [if_neg h2] at h
  split
  · rename_i h3; rw [if_pos h3] at h; cases h
  rename_i h3
  rw [if_neg h3] at h
  simp only at h ⊢
  obtain ⟨e, he⟩ : ∃ e, e = (if (unitOf l).lawful ≠ 43 ∧ (unitOf l).lawful ≠ 44 ∧ (l.getD 14 0).toNat ≠ (unitOf l).data.length then (45 : Int) else (unitOf l).lawful) := ⟨_, rfl⟩
  rw [← he] at h ⊢
  by_cases h4 : e = 0
  · subst h4
    simp only [ne_eq, not_true_eq_false, if_false]
    refine ⟨?_, trivial⟩
    split at he
    · cases he
    · exact he.symm
  · rw [if_pos h4] at h
    exact absurd h h4
theorem lawful_flags {u : UnitM} (h : u.lawful = 0) : 0 ≤ u.flags ∧ u.flags ≤ 15 := by
  unfold UnitM.lawful at h
  split at h
  · cases h
  split at h
  · cases h
  split at h
  · cases h
  split at h
  · cases h
  split at h
  · cases h
  split at h
  · cases h
  · rename_i h1
    simp [flagOk] at h1
    omega
theorem Reads.keepS {w w' : World} {B size n : Nat} {A : Option Addr} {xs : List Value} {S : Nat → Prop} (h : Reads w B size A n xs) (hk : Keep S w w') (hB : B ≤ w.heap.size) (hA : ∀ ad, A = some ad → ¬ S ad.block) : Reads w' B size A n xs := by
  refine ⟨h.1, fun hn => ?_⟩
  obtain ⟨ad, e, hb, hc⟩ := h.2 hn
  refine ⟨ad, e, hb, fun j u hu => ?_⟩
  rw [World.cell?_of_block (hk.block (ad.add j).block (by rw [block_of_add]; omega) (by rw [block_of_add]; exact hA ad e))]
  exact hc j u hu
theorem flag8 {f : Int} (h0 : 0 ≤ f) (h1 : f ≤ 15) : (bits .and .i64 f 8 != 0) = decide (8 ≤ f) := by
  have e : ∀ k : Fin 16, (bits .and .i64 (k.val : Int) 8 != 0) = decide (8 ≤ (k.val : Int)) := by decide +kernel
  have := e ⟨f.toNat, by omega⟩
  simp only at this
  rwa [show ((f.toNat : Nat) : Int) = f by omega] at this
theorem sign_length (p : ParM) : p.sign.length = 4 := by simp [ParM.sign, wordOf]
theorem own_cap {w : World} {base n c size : Nat} {e : TypeId} {A : Option Addr} {xs : List Value} (h : w.ownsRow base e size (.slice A n c) n xs) : n ≤ c := by
  rcases h.2 with ⟨h, h0⟩ | ⟨g, cap, cur, h, _, _, h1, _⟩
  · omega
  · injection h with _ _ h3; omega
def smallM : ParM := ⟨7, 2, 1, 10, 9⟩
theorem small_ok : smallM.Ok := ⟨by decide, by decide⟩
theorem small_lawful : smallM.lawful = true := by decide
theorem Reads.keepP {w w' : World} {B size n : Nat} {A : Option Addr} {xs : List Value} {S : Nat → Prop} (h : Reads w B size A n xs) (hk : Keep S w w') (hB : B ≤ w.heap.size) (hA : 0 < n → ∀ ad, A = some ad → ¬ S ad.block) : Reads w' B size A n xs := by
  refine ⟨h.1, fun hn => ?_⟩
  obtain ⟨ad, e, hb, hc⟩ := h.2 hn
  refine ⟨ad, e, hb, fun j u hu => ?_⟩
  rw [World.cell?_of_block (hk.block (ad.add j).block (by rw [block_of_add]; omega) (by rw [block_of_add]; exact hA hn ad e))]
  exact hc j u hu
theorem reads_nn {w : World} {B n size : Nat} {A : Option Addr} {xs : List Value} (h : Reads w B size A n xs) (e : A = none) : n = 0 := by
  rcases Nat.eq_zero_or_pos n with h0 | h0
  · exact h0
  · obtain ⟨ad, h, _⟩ := h.2 h0
    rw [e] at h
    cases h
theorem grow_lt {T : Nat → Prop} {w w' : World} (hT : ∀ x, T x → x < w.heap.size) (hs : w.heap.size ≤ w'.heap.size) : ∀ x, grow T w w' x → x < w'.heap.size := by
  intro x hx
  rcases hx with hx | hx
  · have := hT x hx; omega
  · exact hx.2
theorem flagsM_ok (v : ValveM) (hold : Bool) : 0 ≤ flagsM v hold ∧ flagsM v hold ≤ 15 := by
  unfold flagsM
  split <;> split <;> split <;> split <;> omega
end Go.Proofs.YtbkkfkbgcklkgaaGreat
