/- The base of the laws of the host, part 10: contracts and plain lemmas, no statement. -/
import Derived.Test.YtfoldlbnkfnenaaGreatBase9
/- The reference's Decode (parapetref04). -/
namespace Go.Proofs.YtfoldlbnkfnenaaGreat
open Go.RowKit
set_option maxHeartbeats 10000000
set_option maxRecDepth 100000

theorem r4word_at (i : Nat) (ad : Addr) (n m c B : Nat) (l : List UInt8) (w : World) (hi : 0 < i) (hm : 4 ≤ m) (him : i + 4 ≤ n) (h : Reads w B 1 (some ad) n (u8c l)) :
    Calls Tryz.prog 62 #[.slice (some ⟨ad.block, ad.off + i, none⟩) m c] w fun e w' => e = .returned (.int .u32 (numAt l i)) ∧ ∃ k, w' = w.drewN k := by
  have e : ad.add i = ⟨ad.block, ad.off + i, none⟩ := by unfold Addr.add; rw [if_neg (by omega)]
  have g : ∀ j, (⟨ad.block, ad.off + i, none⟩ : Addr).add j = ad.add (i + j) := fun j => by rw [← e, add_of_add]
  refine r4word_any _ m c (l.getD i 0) (l.getD (i + 1) 0) (l.getD (i + 2) 0) (l.getD (i + 3) 0) w hm ?_ ?_ ?_ ?_ <;> rw [g]
  · exact h.byte (i + 0) (by omega)
  · exact h.byte (i + 1) (by omega)
  · exact h.byte (i + 2) (by omega)
  · exact h.byte (i + 3) (by omega)
theorem cut_mid (ad : Addr) (i j m c : Nat) (hi : 0 < i) (hij : i ≤ j) (hjc : j ≤ c) (hc : ¬ c = i) (W : World) : (Instr.slice 22 (.slice (some ad) m c) (some (.int .i64 (i : Int))) (some (.int .i64 (j : Int))) none).run Tryz.prog W = .ok (.slice (some ⟨ad.block, ad.off + i, none⟩) (j - i) (c - i)) W := by
  rw [run_slice_lh (P := Tryz.prog) (w := W) 22 _ _ _ (by kernel_rfl) .i64 .i64 i j (by omega) (by omega) (by omega)]
  have hs : (sizeOf ((Tryz.prog).elem 22)).run Tryz.prog W = .ok 1 W := by kernel_rfl
  rw [hs]
  have hi0 : ¬ i = 0 := by omega
  simp [Result.andThen, sliced, hc, Addr.add, hi0]
/-- The zero unit with a fault, behind its store. -/
theorem r4zero {w : World} {g : Nat} (h : Blk w g 60 #[.int .i64 0, .int .u32 0, .int .u32 0, .int .u32 0, .int .i64 0, .slice none 0 0]) {B : Nat} {w0 : World} (hb : Below B w0 w) (hg : B ≤ g) :
    Blk ((((((w.setCell ⟨g, 0, none⟩ (.int .i64 0)).setCell ⟨g, 1, none⟩ (.int .u32 0)).setCell ⟨g, 2, none⟩ (.int .u32 0)).setCell ⟨g, 3, none⟩ (.int .u32 0)).setCell ⟨g, 4, none⟩ (.int .i64 0)).setCell ⟨g, 5, none⟩ (.slice none 0 0)) g 60 #[.int .i64 0, .int .u32 0, .int .u32 0, .int .u32 0, .int .i64 0, .slice none 0 0] ∧
    Below B w0 ((((((w.setCell ⟨g, 0, none⟩ (.int .i64 0)).setCell ⟨g, 1, none⟩ (.int .u32 0)).setCell ⟨g, 2, none⟩ (.int .u32 0)).setCell ⟨g, 3, none⟩ (.int .u32 0)).setCell ⟨g, 4, none⟩ (.int .i64 0)).setCell ⟨g, 5, none⟩ (.slice none 0 0)) :=
  ⟨h.store6 _ _ _ _ _ _, below_store6 hb hg _ _ _ _ _ _⟩
theorem r4decode_any (A : Option Addr) (n c B : Nat) (l : List UInt8) (w : World) (hr : Reads w B 1 A n (u8c l)) (hB : B ≤ w.heap.size) (hc : n ≤ c) :
    Calls Tryz.prog 27 #[.slice A n c] w fun e w' => ∃ v, e = .returned (.tuple #[unitVal (decodeM l).1 v, .int .i64 (decodeM l).2]) ∧ w'.ownsRow w.heap.size 5 1 v (decodeM l).1.data.length (u8c (decodeM l).1.data) ∧ Below w.heap.size w w' := by
  have hl : l.length = n := by have := hr.1; simpa [u8c] using this
  have hbz : Below w.heap.size w (w.alloc (.cells #[.int .i64 0, .int .u32 0, .int .u32 0, .int .u32 0, .int .i64 0, .slice none 0 0] 60)) := (Below.refl _ _).alloc (Nat.le_refl _) _
  have hz0 := Blk.new w 60 #[.int .i64 0, .int .u32 0, .int .u32 0, .int .u32 0, .int .i64 0, .slice none 0 0]
  have hrz := hr.alloc hB (.cells #[.int .i64 0, .int .u32 0, .int .u32 0, .int .u32 0, .int .i64 0, .slice none 0 0] 60)
  have hs0 := hbz.size
  obtain ⟨g, Hg⟩ : ∃ g, Hid (g = w.heap.size) := ⟨_, Lib.hid rfl⟩
  have hgw : w.heap.size ≤ g := by have := Hg.out; omega
  by_cases h19 : n < 19
  · have e : decodeM l = (.zero, 40) := by unfold decodeM; rw [if_pos (by omega)]
    rw [e]
    clear e
    go_enter Tryz.func27, Tryz.ntmps27
    go_upto_region 1 with fail
    rw [← Hg.out] at hz0 ⊢
    generalize w.alloc (.cells #[.int .i64 0, .int .u32 0, .int .u32 0, .int .u32 0, .int .i64 0, .slice none 0 0] 60) = W0 at *
    have hcz := hz0.cell
    have hfz := hz0.frozen
    go_wp2_with fail
    obtain ⟨hB3, hb3⟩ := r4zero hz0 hbz hgw
    clear hcz hfz
    generalize (((((W0.setCell ⟨g, 0, none⟩ _).setCell ⟨g, 1, none⟩ _).setCell ⟨g, 2, none⟩ _).setCell ⟨g, 3, none⟩ _).setCell ⟨g, 4, none⟩ _).setCell ⟨g, 5, none⟩ _ = W3 at *
    have hcz := hB3.cell
    refine bodyPost_ret (v := .tuple #[unitVal .zero (.slice none 0 0), .int .i64 40]) (by simp [results, Tryz.results27, go_sem, unitVal, UnitM.zero, hcz]) rfl ⟨_, rfl, World.ownsRow_nil _ _ _ _, hb3⟩
  by_cases h27 : 27 < n
  · have e : decodeM l = (.zero, 41) := by unfold decodeM; rw [if_neg (by omega), if_pos (by omega)]
    rw [e]
    clear e
    go_enter Tryz.func27, Tryz.ntmps27
    go_upto_region 1 with fail
    rw [← Hg.out] at hz0 ⊢
    generalize w.alloc (.cells #[.int .i64 0, .int .u32 0, .int .u32 0, .int .u32 0, .int .i64 0, .slice none 0 0] 60) = W0 at *
    have hcz := hz0.cell
    have hfz := hz0.frozen
    go_wp2_with fail
    obtain ⟨hB3, hb3⟩ := r4zero hz0 hbz hgw
    clear hcz hfz
    generalize (((((W0.setCell ⟨g, 0, none⟩ _).setCell ⟨g, 1, none⟩ _).setCell ⟨g, 2, none⟩ _).setCell ⟨g, 3, none⟩ _).setCell ⟨g, 4, none⟩ _).setCell ⟨g, 5, none⟩ _ = W3 at *
    have hcz := hB3.cell
    refine bodyPost_ret (v := .tuple #[unitVal .zero (.slice none 0 0), .int .i64 41]) (by simp [results, Tryz.results27, go_sem, unitVal, UnitM.zero, hcz]) rfl ⟨_, rfl, World.ownsRow_nil _ _ _ _, hb3⟩
  obtain ⟨ad, rfl⟩ : ∃ ad, A = some ad := by
    obtain ⟨ad, h, _⟩ := hr.2 (by omega)
    exact ⟨ad, h⟩
  have hadB : ad.block < B := by
    obtain ⟨ad', e, h, _⟩ := hr.2 (by omega)
    injection e with e
    rw [e]
    exact h
  obtain ⟨n', rfl⟩ : ∃ n', n = n' + 19 := ⟨n - 19, by omega⟩
  obtain ⟨p, a0, a1, a2, a3, hl4, hpl⟩ := four_of (n := n' + 15) hl
  have hval := fun (W : World) hr' hb' => rvalid_any ad (n' + 19) (n' + 15) c p a0 a1 a2 a3 B W rfl hpl hr' hb' hc (by omega)
  rw [← hl4] at hval
  clear hl4 hpl
  cases hcrc : (crcOf 0#32 l == 0#32) with
  | false =>
    have hcrc' : crcOf 0#32 l ≠ 0#32 := by simpa using hcrc
    have e : decodeM l = (.zero, 42) := by unfold decodeM; rw [if_neg (by omega), if_neg (by omega), if_pos hcrc']
    rw [e]
    rw [hcrc] at hval
    clear e hcrc' hcrc
    go_enter Tryz.func27, Tryz.ntmps27
    go_wp2_with fail
    refine (hval _ hrz (by omega)).mono ?_
    rintro e W0 ⟨rfl, hbv⟩
    rw [← Hg.out] at hz0 ⊢
    replace hz0 := hz0.below hbv hz0.lt
    replace hbz := hbz.trans (hbv.mono hbz.size)
    clear hbv hrz hval
    have hcz := hz0.cell
    have hfz := hz0.frozen
    go_wp2_with fail
    obtain ⟨hB3, hb3⟩ := r4zero hz0 hbz hgw
    clear hcz hfz
    generalize (((((W0.setCell ⟨g, 0, none⟩ _).setCell ⟨g, 1, none⟩ _).setCell ⟨g, 2, none⟩ _).setCell ⟨g, 3, none⟩ _).setCell ⟨g, 4, none⟩ _).setCell ⟨g, 5, none⟩ _ = W3 at *
    have hcz := hB3.cell
    refine bodyPost_ret (v := .tuple #[unitVal .zero (.slice none 0 0), .int .i64 42]) (by simp [results, Tryz.results27, go_sem, unitVal, UnitM.zero, hcz]) rfl ⟨_, rfl, World.ownsRow_nil _ _ _ _, hb3⟩
  | true =>
    rw [hcrc] at hval
    have hn8 : n' ≤ 8 := by omega
    obtain ⟨dm, Hdm⟩ : ∃ d, Hid (d = decodeM l) := ⟨_, Lib.hid rfl⟩
    obtain ⟨b0, Hb0⟩ : ∃ b, Hid (b = l.getD 0 0) := ⟨_, Lib.hid rfl⟩
    obtain ⟨b13, Hb13⟩ : ∃ b, Hid (b = l.getD 13 0) := ⟨_, Lib.hid rfl⟩
    obtain ⟨b14, Hb14⟩ : ∃ b, Hid (b = l.getD 14 0) := ⟨_, Lib.hid rfl⟩
    rw [← Hdm.out]
    have Hcrc := Lib.hid hcrc
    go_enter Tryz.func27, Tryz.ntmps27
    go_wp2_with fail
    refine (hval _ hrz (by omega)).mono ?_
    rintro e W2 ⟨rfl, hbv⟩
    rw [← Hg.out] at hz0 ⊢
    have hz2 := hz0.below hbv hz0.lt
    have hb2 := hbz.trans (hbv.mono hbz.size)
    have hr2 := hrz.below (hbv.mono (by simp; omega))
    have hs2 := hz2.lt
    clear hbv hrz hval hz0 hbz hr hcrc hs0
    go_upto_region 7 with fail
    have hsW := hb2.size
    go_cut [4] from 18 to 66 (fun v4 wc => ∃ g5, v4 = .pointer (some ⟨g5, 0, none⟩) ∧ g < g5 ∧ Blk wc g5 60 #[.int .i64 (b0.toNat : Int), .int .u32 (numAt l 1), .int .u32 (numAt l 5), .int .u32 (numAt l 9), .int .i64 (b13.toNat : Int), .slice none 0 0] ∧
      Blk wc g 60 #[.int .i64 0, .int .u32 0, .int .u32 0, .int .u32 0, .int .i64 0, .slice none 0 0] ∧ Reads wc B 1 (some ad) (n' + 19) (u8c l) ∧ Below w.heap.size w wc)
    case first =>
      have i0 : (0 : Int) < (n' : Int) + 19 := by omega
      have i13 : (13 : Int) < (n' : Int) + 19 := by omega
      have i1 : (1 : Int) ≤ (n' : Int) + 19 := by omega
      have i5 : (5 : Int) ≤ (n' : Int) + 19 := by omega
      have i9 : (9 : Int) ≤ (n' : Int) + 19 := by omega
      have c1 : ¬ c = 1 := by omega
      have c5 : ¬ c = 5 := by omega
      have c9 : ¬ c = 9 := by omega
      have ic : ((n' : Int) + 19) ≤ (c : Int) := by omega
      have x1 : ∀ W, (Instr.slice 22 (.slice (some ad) (n' + 19) c) (some (.int .i64 1)) (some (.int .i64 5)) none).run Tryz.prog W = .ok (.slice (some ⟨ad.block, ad.off + 1, none⟩) 4 (c - 1)) W := fun W => cut_mid ad 1 5 (n' + 19) c (by omega) (by omega) (by omega) (by omega) W
      have x5 : ∀ W, (Instr.slice 22 (.slice (some ad) (n' + 19) c) (some (.int .i64 5)) (some (.int .i64 9)) none).run Tryz.prog W = .ok (.slice (some ⟨ad.block, ad.off + 5, none⟩) 4 (c - 5)) W := fun W => cut_mid ad 5 9 (n' + 19) c (by omega) (by omega) (by omega) (by omega) W
      have x9 : ∀ W, (Instr.slice 22 (.slice (some ad) (n' + 19) c) (some (.int .i64 9)) (some (.int .i64 13)) none).run Tryz.prog W = .ok (.slice (some ⟨ad.block, ad.off + 9, none⟩) 4 (c - 9)) W := fun W => cut_mid ad 9 13 (n' + 19) c (by omega) (by omega) (by omega) (by omega) W
      have hwr0 : IntKind.i64.wrap (b0.toNat : Int) = (b0.toNat : Int) := by have := b0.toNat_lt; exact IntWalk.i64_in _ (by omega)
      have hwr13 : IntKind.i64.wrap (b13.toNat : Int) = (b13.toNat : Int) := by have := b13.toNat_lt; exact IntWalk.i64_in _ (by omega)
      have hBW0 : B ≤ W2.heap.size := by omega
      have hBW := size_drew hBW0
      have hr0 := hr2
      have hz0 := hz2
      have hb0 := hb2
      replace hr2 := hr2.drew
      replace hz2 := hz2.drew
      replace hb2 := hb2.drew
      have p13 : 13 < n' + 19 := by omega
      go_wp2_with fail
      go_region_held3 (fun w' => w'.cell? ad = some (.int .u8 (b0.toNat : Int)) ∧ w'.cell? ⟨ad.block, ad.off + 13, none⟩ = some (.int .u8 (b13.toNat : Int))) (with_reducible (first | exact hr2.two p13 Hb0 Hb13 | exact (hr2.alloc hBW _).two p13 Hb0 Hb13 | exact (hr0.alloc hBW0 _).drew.two p13 Hb0 Hb13 | exact (hr2.store6 hBN _ _ _ _ _ _).two p13 Hb0 Hb13)) (first
        | (go_at_call 62; refine (r4word_at _ ad (n' + 19) _ _ B l _ ?_ ?_ ?_ ?_).mono ?_; omega; omega; omega; with_reducible exact hr2; rintro e W ⟨rfl, k1, hW⟩; replace hz2 := hz2.same (Same.of hW (Same.refl _)); replace hb2 := below_same hb2 (Same.of hW (Same.refl _)); replace hBW := size_same hBW (Same.of hW (Same.refl _)); (try (replace hN := hN.same (Same.of hW (Same.refl _)); replace hNc := hN.cell; replace hNf := hN.frozen)); replace hr2 := hr2.same (Same.of hW (Same.refl _)); clear hW)
        | (go_at_call 62; refine (r4word_at _ ad (n' + 19) _ _ B l _ ?_ ?_ ?_ ?_).mono ?_; omega; omega; omega; with_reducible exact hr2.alloc hBW _; rintro e W ⟨rfl, k1, hW⟩; have hBN := hBW; have hgN := hz2.lt; have hgW := hb2.size; replace hz2 := (hz2.alloc _).same (Same.of hW (Same.refl _)); replace hb2 := below_same (hb2.alloc hb2.size _) (Same.of hW (Same.refl _)); have hN := (Blk.new _ 60 #[.int .i64 0, .int .u32 0, .int .u32 0, .int .u32 0, .int .i64 0, .slice none 0 0]).same (Same.of hW (Same.refl _)); have hNc := hN.cell; have hNf := hN.frozen; replace hr2 := (hr2.alloc hBW _).same (Same.of hW (Same.refl _)); replace hBW := size_same (size_alloc hBW _) (Same.of hW (Same.refl _)); clear hW)
        | (go_at_call 62; refine (r4word_at _ ad (n' + 19) _ _ B l _ ?_ ?_ ?_ ?_).mono ?_; omega; omega; omega; with_reducible exact (hr0.alloc hBW0 _).drew; rintro e W ⟨rfl, k1, hW⟩; have hBN := hBW0; have hgN := hz0.lt; have hgW := hb0.size; replace hz2 := ((hz0.alloc _).drew).same (Same.of hW (Same.refl _)); replace hb2 := below_same ((hb0.alloc hb0.size _).drew) (Same.of hW (Same.refl _)); have hN := ((Blk.new _ 60 #[.int .i64 0, .int .u32 0, .int .u32 0, .int .u32 0, .int .i64 0, .slice none 0 0]).drew).same (Same.of hW (Same.refl _)); have hNc := hN.cell; have hNf := hN.frozen; replace hr2 := ((hr0.alloc hBW0 _).drew).same (Same.of hW (Same.refl _)); replace hBW := size_same (size_drew (size_alloc hBW0 _)) (Same.of hW (Same.refl _)); clear hW))
      all_goals (go_wp2_with fail; go_meet)
      all_goals first
        | exact ⟨_, rfl, hz2.lt, Blk.new _ _ _, hz2.alloc _, hr2.alloc hBW _, hb2.alloc hb2.size _⟩
        | exact ⟨_, rfl, hgN, hN.store6 _ _ _ _ _ _, hz2.far6 hgN _ _ _ _ _ _, hr2.store6 hBN _ _ _ _ _ _, below_store6 hb2 hgW _ _ _ _ _ _⟩
    case rest =>
      obtain ⟨g5, rfl, hg5, hB5, hz5, hr5, hb5⟩ := hcut
      obtain ⟨W5, rfl⟩ : ∃ W : World, W = wc := ⟨_, rfl⟩
      clear hb2 hr2 hs2 hz2 hsW
      obtain ⟨data, Hdata⟩ : ∃ d, Hid (d = (l.drop 15).take n') := ⟨_, Lib.hid rfl⟩
      have hdl : data.length = n' := by rw [Hdata.out, List.length_take, List.length_drop]; omega
      have hrd : Reads W5 B 1 (some ⟨ad.block, ad.off + 15, none⟩) n' (u8c data) := by
        have := hr5.sub 15 n' (by omega)
        rw [u8c_sub, ← Hdata.out] at this
        exact this
      have h14c : W5.cell? ⟨ad.block, ad.off + 14, none⟩ = some (.int .u8 (b14.toNat : Int)) := by
        have := hr5.byte 14 (by omega)
        rw [← Hb14.out] at this
        exact this
      have Hunit : Hid (unitOf l = ⟨b0.toNat, numAt l 1, numAt l 5, numAt l 9, b13.toNat, data⟩) := Lib.hid (by
        unfold unitOf
        rw [← Hb0.out, ← Hb13.out, Hdata.out, hl, show n' + 19 - 19 = n' by omega])
      have Hdm2 : Hid (dm = (if (if (unitOf l).lawful ≠ 43 ∧ (unitOf l).lawful ≠ 44 ∧ (b14.toNat) ≠ (unitOf l).data.length then 45 else (unitOf l).lawful) ≠ 0 then (.zero, (if (unitOf l).lawful ≠ 43 ∧ (unitOf l).lawful ≠ 44 ∧ (b14.toNat) ≠ (unitOf l).data.length then 45 else (unitOf l).lawful)) else (unitOf l, 0))) := Lib.hid (by
        have hc0 : ¬ crcOf 0#32 l ≠ 0#32 := by have := Hcrc.out; simpa using this
        rw [Hdm.out, Hb14.out]
        unfold decodeM
        rw [if_neg (by omega), if_neg (by omega), if_neg hc0])
      have Hdm3 : Hid (dm = (if (if (UnitM.mk b0.toNat (numAt l 1) (numAt l 5) (numAt l 9) b13.toNat data).lawful ≠ 43 ∧ (UnitM.mk b0.toNat (numAt l 1) (numAt l 5) (numAt l 9) b13.toNat data).lawful ≠ 44 ∧ ¬ b14.toNat = n' then 45 else (UnitM.mk b0.toNat (numAt l 1) (numAt l 5) (numAt l 9) b13.toNat data).lawful) ≠ 0 then (.zero, (if (UnitM.mk b0.toNat (numAt l 1) (numAt l 5) (numAt l 9) b13.toNat data).lawful ≠ 43 ∧ (UnitM.mk b0.toNat (numAt l 1) (numAt l 5) (numAt l 9) b13.toNat data).lawful ≠ 44 ∧ ¬ b14.toNat = n' then 45 else (UnitM.mk b0.toNat (numAt l 1) (numAt l 5) (numAt l 9) b13.toNat data).lawful)) else ((⟨b0.toNat, numAt l 1, numAt l 5, numAt l 9, b13.toNat, data⟩ : UnitM), 0))) := Lib.hid (by
        rw [Hdm2.out, Hunit.out, hdl])
      clear Hdm Hdm2 Hunit Hcrc hr5
      have n1 := numAt_nonneg l 5
      have n2 := numAt_nonneg l 9
      generalize numAt l 1 = q1 at *
      generalize numAt l 5 = q5 at *
      generalize numAt l 9 = q9 at *
      have hlaw := fun A c w => r4lawful_any ⟨b0.toNat, q1, q5, q9, b13.toNat, data⟩ A c w n1 n2
      unfold unitVal at hlaw
      simp only [hdl] at hlaw
      generalize (UnitM.mk b0.toNat q1 q5 q9 b13.toNat data).lawful = law at *
      obtain ⟨i0, hi0, hz0, hz1, hz2⟩ := info_parts byte_info
      have hw14 : IntKind.i64.wrap (b14.toNat : Int) = (b14.toNat : Int) := by have := b14.toNat_lt; exact IntWalk.i64_in _ (by omega)
      have hsz5 := hb5.size
      have hgl := hz5.lt
      have hg5l := hB5.lt
      have Hl := Lib.hid hl
      clear hl
      have hcn : n' + 15 ≤ c := by omega
      have x15 : ∀ W, (Instr.slice 22 (.slice (some ad) (n' + 19) c) (some (.int .i64 15)) (some (.int .i64 ((n' : Int) + 15))) none).run Tryz.prog W = .ok (.slice (some ⟨ad.block, ad.off + 15, none⟩) n' (c - 15)) W := fun W => by
        have := cut_mid ad 15 (n' + 15) (n' + 19) c (by omega) (by omega) hcn (by omega) W
        rw [Nat.add_sub_cancel] at this
        exact this
      go_wp2_with (at_builtin; refine wpList_append_any _ rfl (.tmp 36) (.tmp 41) _ rfl W5.heap.size 5 i0 _ 1 1 Tryz.underlying22 hi0 hz0 hz1 hz2 rfl (by omega) (.slice (some ⟨W5.heap.size, 0, none⟩) 0 0) 0 [] rfl (World.ownsRow_made W5 #[] 0 (Nat.le_refl _) (by unfold maxLen; omega) rfl) B (some ⟨ad.block, ad.off + 15, none⟩) n' (c - 15) (u8c data) rfl (hrd.alloc (by omega) _) (u8c_one _) (by unfold maxLen; omega) (by omega) (by simp) ?_; intro v6 w6 hown6 hg6 hat6; rw [Nat.zero_add, List.nil_append] at hown6; obtain ⟨A6, c6, rfl⟩ := own_slice hown6; have hb6 : Below W5.heap.size W5 w6 := ((Below.refl _ _).alloc (Nat.le_refl _) _).grown hg6 (by simp) (fun k hk => by simp [Value.ownBlock] at hk; omega); have hB6 := hB5.below hb6 hg5l; have hz6 := hz5.below hb6 hgl; have hc6 := hB6.cell; have hf6 := hB6.frozen)
      refine (hlaw _ _ _).mono ?_
      rintro e W7 ⟨rfl, hb7⟩
      have hB7 : Blk W7 g5 60 #[.int .i64 (b0.toNat : Int), .int .u32 q1, .int .u32 q5, .int .u32 q9, .int .i64 (b13.toNat : Int), .slice A6 n' c6] := by
        have := (hB6.set_ 5 (.slice A6 n' c6)).below hb7 (hB6.set_ 5 _).lt
        simpa using this
      have hz7 := (hz6.far (p := ⟨g5, 5, none⟩) (Nat.ne_of_lt hg5) (.slice A6 n' c6)).below hb7 (hz6.far (p := ⟨g5, 5, none⟩) (Nat.ne_of_lt hg5) _).lt
      have hb6' := hb5.trans (hb6.mono hsz5)
      have hb7' : Below w.heap.size w W7 := (hb6'.setCell (p := ⟨g5, 5, none⟩) (by simp; omega) (.slice A6 n' c6)).trans (hb7.mono (by simp [World.setCell]; exact hb6'.size))
      have hown7 : W7.ownsRow W5.heap.size 5 1 (.slice A6 n' c6) n' (u8c data) := by
        refine own_below (own_far hown6 (g := g5) (fun h => ?_) 5 _) hb7
        have := (hown6.lt _ h).1
        omega
      have h14d : W7.cell? ⟨ad.block, ad.off + 14, none⟩ = some (.int .u8 (b14.toNat : Int)) :=
        ((hb7'.cell (p := ⟨ad.block, ad.off + 14, none⟩) (Nat.lt_of_lt_of_le hadB hB)).trans (hb5.cell (p := ⟨ad.block, ad.off + 14, none⟩) (Nat.lt_of_lt_of_le hadB hB)).symm).trans h14c
      have hlt6 := hown6.lt
      have hc7 := hB7.cell
      have hz7c := hz7.cell
      have hf7 := hz7.frozen
      have i14 : (14 : Int) < (n' : Int) + 19 := by omega
      clear hb7 hB6 hz6 hb6 hb6' hown6 hlaw h14c hc6 hf6 hg6 hat6 hrd x15 hB5 hz5
      by_cases x43 : law = 43
      · subst x43
        go_wp2_with fail
        go_big_quiet (fail)
        have hq7 := hz7.drewN nq
        have hbq := belowN hb7' nq
        generalize W7.drewN nq = W8 at *
        clear hc7 hz7c hf7 h14d
        have hcz := hq7.cell
        have hcf := hq7.frozen
        go_wp2_with fail
        obtain ⟨hB9, hb9⟩ := r4zero hq7 hbq hgw
        clear hcz hcf
        generalize (((((W8.setCell ⟨g, 0, none⟩ _).setCell ⟨g, 1, none⟩ _).setCell ⟨g, 2, none⟩ _).setCell ⟨g, 3, none⟩ _).setCell ⟨g, 4, none⟩ _).setCell ⟨g, 5, none⟩ _ = W9 at *
        have hc9 := hB9.cell
        have hdm : dm = (.zero, 43) := by rw [Hdm3.out]; simp
        subst hdm
        refine bodyPost_ret (v := .tuple #[unitVal .zero (.slice none 0 0), .int .i64 43]) (by simp [results, Tryz.results27, go_sem, unitVal, UnitM.zero, hc9]) rfl ⟨_, rfl, World.ownsRow_nil _ _ _ _, hb9⟩
      have g43 : (law != 43) = true := by simpa using x43
      by_cases x44 : law = 44
      · subst x44
        go_wp2_with fail
        go_big_quiet (fail)
        have hq7 := hz7.drewN nq
        have hbq := belowN hb7' nq
        generalize W7.drewN nq = W8 at *
        clear hc7 hz7c hf7 h14d
        have hcz := hq7.cell
        have hcf := hq7.frozen
        go_wp2_with fail
        obtain ⟨hB9, hb9⟩ := r4zero hq7 hbq hgw
        clear hcz hcf
        generalize (((((W8.setCell ⟨g, 0, none⟩ _).setCell ⟨g, 1, none⟩ _).setCell ⟨g, 2, none⟩ _).setCell ⟨g, 3, none⟩ _).setCell ⟨g, 4, none⟩ _).setCell ⟨g, 5, none⟩ _ = W9 at *
        have hc9 := hB9.cell
        have hdm : dm = (.zero, 44) := by rw [Hdm3.out]; simp
        subst hdm
        refine bodyPost_ret (v := .tuple #[unitVal .zero (.slice none 0 0), .int .i64 44]) (by simp [results, Tryz.results27, go_sem, unitVal, UnitM.zero, hc9]) rfl ⟨_, rfl, World.ownsRow_nil _ _ _ _, hb9⟩
      have g44 : (law != 44) = true := by simpa using x44
      by_cases h14 : b14.toNat = n'
      · have hq14 : ((b14.toNat : Int) == (n' : Int)) = true := by simp; omega
        have hq14' : ((b14.toNat : Int) != (n' : Int)) = false := by simp; omega
        go_wp2_with fail
        go_big_quiet (fail)
        by_cases hl0 : law = 0
        · subst hl0
          have hq7 := hz7.drewN nq
          have hB7q := hB7.drewN nq
          have hbq := belowN hb7' nq
          have hownq := own_below hown7 (belowN (Below.refl W7.heap.size W7) nq)
          generalize W7.drewN nq = W8 at *
          clear hc7 hz7c hf7 h14d
          have hcz := hq7.cell
          have hcf := hq7.frozen
          have hc7 := hB7q.cell
          go_wp2_with fail
          have hB9 := hq7.store6 (.int .i64 (b0.toNat : Int)) (.int .u32 q1) (.int .u32 q5) (.int .u32 q9) (.int .i64 (b13.toNat : Int)) (.slice A6 n' c6)
          have hb9 := below_store6 hbq hgw (.int .i64 (b0.toNat : Int)) (.int .u32 q1) (.int .u32 q5) (.int .u32 q9) (.int .i64 (b13.toNat : Int)) (.slice A6 n' c6)
          have hfar : (Value.slice A6 n' c6).ownBlock ≠ some g := fun h => by have := (hlt6 g h).1; omega
          have hown9 := own_far (own_far (own_far (own_far (own_far (own_far hownq hfar 0 (.int .i64 (b0.toNat : Int))) hfar 1 (.int .u32 q1)) hfar 2 (.int .u32 q5)) hfar 3 (.int .u32 q9)) hfar 4 (.int .i64 (b13.toNat : Int))) hfar 5 (.slice A6 n' c6)
          clear hcz hcf hc7
          generalize (((((W8.setCell ⟨g, 0, none⟩ _).setCell ⟨g, 1, none⟩ _).setCell ⟨g, 2, none⟩ _).setCell ⟨g, 3, none⟩ _).setCell ⟨g, 4, none⟩ _).setCell ⟨g, 5, none⟩ _ = W9 at *
          have hc9 := hB9.cell
          have hdm : dm = (⟨b0.toNat, q1, q5, q9, b13.toNat, data⟩, 0) := by rw [Hdm3.out]; simp [h14]
          subst hdm
          refine bodyPost_ret (v := .tuple #[unitVal ⟨b0.toNat, q1, q5, q9, b13.toNat, data⟩ (.slice A6 n' c6), .int .i64 0]) (by simp [results, Tryz.results27, go_sem, unitVal, hc9]) rfl ⟨_, rfl, ?_, hb9⟩
          simp only [hdl]
          exact own_base hown9 hsz5
        · have hl0' : (law != 0) = true := by simpa using hl0
          have hq7 := hz7.drewN nq
          have hbq := belowN hb7' nq
          generalize W7.drewN nq = W8 at *
          clear hc7 hz7c hf7 h14d
          have hcz := hq7.cell
          have hcf := hq7.frozen
          go_wp2_with fail
          obtain ⟨hB9, hb9⟩ := r4zero hq7 hbq hgw
          clear hcz hcf
          generalize (((((W8.setCell ⟨g, 0, none⟩ _).setCell ⟨g, 1, none⟩ _).setCell ⟨g, 2, none⟩ _).setCell ⟨g, 3, none⟩ _).setCell ⟨g, 4, none⟩ _).setCell ⟨g, 5, none⟩ _ = W9 at *
          have hc9 := hB9.cell
          have hdm : dm = (.zero, law) := by rw [Hdm3.out]; simp [h14, hl0]
          subst hdm
          refine bodyPost_ret (v := .tuple #[unitVal .zero (.slice none 0 0), .int .i64 law]) (by simp [results, Tryz.results27, go_sem, unitVal, UnitM.zero, hc9]) rfl ⟨_, rfl, World.ownsRow_nil _ _ _ _, hb9⟩
      · have hq14 : ((b14.toNat : Int) == (n' : Int)) = false := by simp; omega
        have hq14' : ((b14.toNat : Int) != (n' : Int)) = true := by simp; omega
        go_wp2_with fail
        go_big_quiet (fail)
        have hq7 := hz7.drewN nq
        have hbq := belowN hb7' nq
        generalize W7.drewN nq = W8 at *
        clear hc7 hz7c hf7 h14d
        have hcz := hq7.cell
        have hcf := hq7.frozen
        go_wp2_with fail
        obtain ⟨hB9, hb9⟩ := r4zero hq7 hbq hgw
        clear hcz hcf
        generalize (((((W8.setCell ⟨g, 0, none⟩ _).setCell ⟨g, 1, none⟩ _).setCell ⟨g, 2, none⟩ _).setCell ⟨g, 3, none⟩ _).setCell ⟨g, 4, none⟩ _).setCell ⟨g, 5, none⟩ _ = W9 at *
        have hc9 := hB9.cell
        have hdm : dm = (.zero, 45) := by rw [Hdm3.out]; simp [x43, x44, h14]
        subst hdm
        refine bodyPost_ret (v := .tuple #[unitVal .zero (.slice none 0 0), .int .i64 45]) (by simp [results, Tryz.results27, go_sem, unitVal, UnitM.zero, hc9]) rfl ⟨_, rfl, World.ownsRow_nil _ _ _ _, hb9⟩
end Go.Proofs.YtfoldlbnkfnenaaGreat
/- A nil host. -/
namespace Go.Proofs.YtfoldlbnkfnenaaGreat
open Go.RowKit
set_option maxHeartbeats 4000000
set_option maxRecDepth 100000

theorem hostSend_nil (w : World) : Calls Tryz.prog 19 #[.pointer none] w fun e w' => e = .returned (.tuple #[.slice none 0 0, .int .i64 1]) ∧ w' = w := by
  go_enter Tryz.func19, Tryz.ntmps19
  go_wp2_with fail
  refine bodyPost_ret (v := .tuple #[.slice none 0 0, .int .i64 1]) (by simp [results, Tryz.results19, go_sem]) rfl ⟨rfl, rfl⟩
theorem hostLog_nil (w : World) : Calls Tryz.prog 30 #[.pointer none] w fun e w' => e = .returned (.tuple #[.slice none 0 0, .int .i64 0]) ∧ w' = w := by
  go_enter Tryz.func30, Tryz.ntmps30
  go_wp2_with fail
  refine bodyPost_ret (v := .tuple #[.slice none 0 0, .int .i64 0]) (by simp [results, Tryz.results30, go_sem]) rfl ⟨rfl, rfl⟩
theorem hostReceive_nil (A : Option Addr) (n c : Nat) (w : World) : Calls Tryz.prog 22 #[.pointer none, .slice A n c] w fun e w' => e = .returned (.int .i64 1) ∧ w' = w := by
  go_enter Tryz.func22, Tryz.ntmps22
  go_wp2_with fail
  go_ret
  exact ⟨rfl, rfl⟩
theorem hostWrite_nil (A : Option Addr) (n c : Nat) (h : Bool) (w : World) : Calls Tryz.prog 16 #[.pointer none, .slice A n c, .bool h] w fun e w' => e = .returned (.int .i64 1) ∧ w' = w := by
  go_enter Tryz.func16, Tryz.ntmps16
  go_wp2_with fail
  go_ret
  exact ⟨rfl, rfl⟩
theorem hostTick_nil (n : Int) (w : World) : Calls Tryz.prog 34 #[.pointer none, .int .i64 n] w fun e w' => e = .returned (.int .i64 1) ∧ w' = w := by
  go_enter Tryz.func34, Tryz.ntmps34
  go_wp2_with fail
  go_ret
  exact ⟨rfl, rfl⟩
theorem hostAck_nil (w : World) : Calls Tryz.prog 35 #[.pointer none] w fun e w' => e = .returned (.int .i64 1) ∧ w' = w := by
  go_enter Tryz.func35, Tryz.ntmps35
  go_wp2_with fail
  go_ret
  exact ⟨rfl, rfl⟩
theorem hostReset_nil (w : World) : Calls Tryz.prog 36 #[.pointer none] w fun e w' => e = .returned (.int .i64 1) ∧ w' = w := by
  go_enter Tryz.func36, Tryz.ntmps36
  go_wp2_with fail
  go_ret
  exact ⟨rfl, rfl⟩
theorem hostCode_nil (w : World) : Calls Tryz.prog 37 #[.pointer none] w fun e w' => e = .returned (.int .u32 0) ∧ w' = w := by
  go_enter Tryz.func37, Tryz.ntmps37
  go_wp2_with fail
  go_ret
  exact ⟨rfl, rfl⟩
theorem hostSee_nil (w : World) : Calls Tryz.prog 24 #[.pointer none] w fun e w' => e = .returned (endVal ⟨0, 0, 0, 0, 0, 0, false, false, []⟩ (.slice none 0 0)) ∧ Below w.heap.size w w' := by
  go_enter Tryz.func24, Tryz.ntmps24
  go_wp2_with fail
  refine bodyPost_ret (v := endVal ⟨0, 0, 0, 0, 0, 0, false, false, []⟩ (.slice none 0 0)) (by simp [results, Tryz.results24, go_sem, endVal]) rfl ⟨rfl, ?_⟩
  exact (Below.refl _ _).alloc (Nat.le_refl _) _
end Go.Proofs.YtfoldlbnkfnenaaGreat
/- What is encoded is decoded: plain. -/
namespace Go.Proofs.YtfoldlbnkfnenaaGreat

theorem lawful_kind {u : UnitM} (h : u.lawful = 0) : 1 ≤ u.kind ∧ u.kind ≤ 22 := by
  unfold UnitM.lawful at h
  split at h
  · cases h
  · rename_i h1
    simp [isHost, isDev] at h1
    by_cases h2 : u.kind < 1 ∨ 5 < u.kind
    · have := h1 h2
      omega
    · omega
theorem lawful_flags2 {u : UnitM} (h : u.lawful = 0) : 0 ≤ u.flags ∧ u.flags ≤ 15 := by
  unfold UnitM.lawful at h
  split at h
  · cases h
  split at h
  · cases h
  split at h
  · cases h
  split at h
  · cases h
  split at h
  · cases h
  split at h
  · cases h
  · rename_i h1
    simp [flagOk] at h1
    omega
theorem byteOf_nat {n : Int} (h0 : 0 ≤ n) (h1 : n < 256) : (((byteOf n).toNat : Nat) : Int) = n := by
  rw [byteOf_val]
  omega
theorem ofInt_word {n : Int} (h : 0 ≤ n ∧ n < 4294967296) : (((BitVec.ofInt 32 n).toNat : Nat) : Int) = n := by
  simp [BitVec.toNat_ofInt]
  omega
theorem decode_encode {u : UnitM} (h : u.lawful = 0) (ho : u.Ok) : decodeM u.encode = (u, 0) := by
  have hd := UnitM.lawful_len h
  have hk := lawful_kind h
  have hf := lawful_flags2 h
  have he : u.encode = sealM u.body := by unfold UnitM.encode; rw [if_pos h]
  have hlen : u.body.length = 15 + u.data.length := by
    unfold UnitM.body wordBytes wordOf
    simp
    omega
  have hsl : (sealM u.body).length = u.data.length + 19 := by
    unfold sealM wordOf
    simp [hlen]
    omega
  have hcrc : crcOf 0#32 (sealM u.body) = 0#32 := by
    unfold sealM
    exact (crc_valid u.body _ _ _ _).2 rfl
  have hu : unitOf (sealM u.body) = u := by
    obtain ⟨kind, code, session, number, flags, data⟩ := u
    unfold unitOf
    rw [hsl]
    simp only at *
    have e1 : numAt (sealM (UnitM.body ⟨kind, code, session, number, flags, data⟩)) 1 = code := by
      unfold numAt sealM UnitM.body wordBytes wordOf
      simp only [List.cons_append, List.nil_append, List.getD_cons_succ, List.getD_cons_zero]
      rw [ofWord_wordOf]
      exact ofInt_word ho.code
    have e5 : numAt (sealM (UnitM.body ⟨kind, code, session, number, flags, data⟩)) 5 = session := by
      unfold numAt sealM UnitM.body wordBytes wordOf
      simp only [List.cons_append, List.nil_append, List.getD_cons_succ, List.getD_cons_zero]
      rw [ofWord_wordOf]
      exact ofInt_word ho.session
    have e9 : numAt (sealM (UnitM.body ⟨kind, code, session, number, flags, data⟩)) 9 = number := by
      unfold numAt sealM UnitM.body wordBytes wordOf
      simp only [List.cons_append, List.nil_append, List.getD_cons_succ, List.getD_cons_zero]
      rw [ofWord_wordOf]
      exact ofInt_word ho.number
    have e0 : (((sealM (UnitM.body ⟨kind, code, session, number, flags, data⟩)).getD 0 0).toNat : Int) = kind := by
      unfold sealM UnitM.body
      simp only [List.cons_append, List.nil_append, List.getD_cons_zero]
      exact byteOf_nat (by omega) (by omega)
    have e13 : (((sealM (UnitM.body ⟨kind, code, session, number, flags, data⟩)).getD 13 0).toNat : Int) = flags := by
      unfold sealM UnitM.body wordBytes wordOf
      simp only [List.cons_append, List.nil_append, List.getD_cons_succ, List.getD_cons_zero]
      exact byteOf_nat (by omega) (by omega)
    have ed : ((sealM (UnitM.body ⟨kind, code, session, number, flags, data⟩)).drop 15).take (data.length + 19 - 19) = data := by
      unfold sealM UnitM.body wordBytes wordOf
      simp
    rw [e0, e1, e5, e9, e13, ed]
  have h14 : ((sealM u.body).getD 14 0).toNat = u.data.length := by
    have : ((((sealM u.body).getD 14 0).toNat : Nat) : Int) = (u.data.length : Int) := by
      unfold sealM UnitM.body wordBytes wordOf
      simp only [List.cons_append, List.nil_append, List.getD_cons_succ, List.getD_cons_zero]
      exact byteOf_nat (by omega) (by omega)
    omega
  rw [he]
  unfold decodeM
  rw [if_neg (by omega), if_neg (by omega), if_neg (by simp [hcrc])]
  simp only [hu, h14, h]
  simp
end Go.Proofs.YtfoldlbnkfnenaaGreat
/- parapetref13.Same, parapetlaw13.Small, parapetlaw14.Awake. -/
namespace Go.Proofs.YtfoldlbnkfnenaaGreat
open Go.RowKit
set_option maxHeartbeats 10000000
set_option maxRecDepth 100000

theorem r13same_any (e : EndM) (A1 A2 : Option Addr) (c1 c2 B : Nat) (w : World) (h1 : Reads w B 1 A1 e.out.length (u8c e.out)) (h2 : Reads w B 1 A2 e.out.length (u8c e.out)) (hB : B ≤ w.heap.size) :
    Calls Tryz.prog 31 #[endVal e (.slice A1 e.out.length c1), endVal e (.slice A2 e.out.length c2)] w fun r w' => r = .returned (.bool true) ∧ Below w.heap.size w w' := by
  have k1 : ∀ o1 o2, (convert 22 9 (.slice A1 e.out.length c1)).run Tryz.prog ((w.alloc o1).alloc o2) = .ok (.string ⟨e.out.toArray⟩) ((w.alloc o1).alloc o2) := fun o1 o2 => conv_reads ((h1.alloc hB o1).alloc (by simp; omega) o2)
  have k2 : ∀ o1 o2, (convert 22 9 (.slice A2 e.out.length c2)).run Tryz.prog ((w.alloc o1).alloc o2) = .ok (.string ⟨e.out.toArray⟩) ((w.alloc o1).alloc o2) := fun o1 o2 => conv_reads ((h2.alloc hB o1).alloc (by simp; omega) o2)
  obtain ⟨state, session, number, sent, since, latched, request, on, out⟩ := e
  unfold endVal
  simp only at *
  have hb : ∀ o1 o2, Below w.heap.size w ((w.alloc o1).alloc o2) := fun o1 o2 => ((Below.refl _ _).alloc (Nat.le_refl _) o1).alloc (by simp) o2
  have q1 : ∀ W, (binOp .eql 4 (.bool request) (.bool request)).run Tryz.prog W = .ok (.bool true) W := by cases request <;> exact fun _ => by kernel_rfl
  have q2 : ∀ W, (binOp .eql 4 (.bool on) (.bool on)).run Tryz.prog W = .ok (.bool true) W := by cases on <;> exact fun _ => by kernel_rfl
  clear h1 h2 hB
  go_enter Tryz.func31, Tryz.ntmps31
  go_wp2_with fail
  go_ret
  exact ⟨by simp, hb _ _⟩
def smallM : ParM := ⟨7, 2, 1, 10, 9⟩
theorem small_ok : smallM.Ok := ⟨by decide, by decide⟩
theorem small_lawful : smallM.lawful = true := by decide
theorem lawSmall_any (w : World) : Calls Tryz.prog 13 #[] w fun e w' => e = .returned (parVal smallM) ∧ Below w.heap.size w w' := by
  go_enter Tryz.func13, Tryz.ntmps13
  go_wp2_with fail
  refine bodyPost_ret (v := parVal smallM) (by simp [results, Tryz.results13, go_sem, parVal, smallM]) rfl ⟨rfl, ?_⟩
  exact (Below.refl _ _).alloc (Nat.le_refl _) _
def smallH : HostM := HostM.new smallM
theorem smallH_good : smallH.Good := HostM.good_new smallM small_ok small_lawful []
theorem sign_length (p : ParM) : p.sign.length = 4 := by simp [ParM.sign, wordOf]
theorem small_send : smallH.send = ({ smallH with waits := true }, (UnitM.mk 1 7 0 0 0 smallM.sign).encode, 0) := by
  unfold HostM.send
  rw [if_neg (by decide)]
  have h1 : smallH.lost = smallH := by unfold HostM.lost; rw [if_pos (.inl rfl)]
  rw [h1]
  rfl
theorem small_frame : decodeM (UnitM.mk 1 7 0 0 0 smallM.sign).encode = (UnitM.mk 1 7 0 0 0 smallM.sign, 0) := by
  apply decode_encode
  · unfold UnitM.lawful
    simp [isHost, isDev, dataOk, sessOk, numOk, flagOk, sign_length]
  · exact ⟨by simp, by simp, by simp⟩
theorem own_cap {w : World} {base n c size : Nat} {e : TypeId} {A : Option Addr} {xs : List Value} (h : w.ownsRow base e size (.slice A n c) n xs) : n ≤ c := by
  rcases h.2 with ⟨h, h0⟩ | ⟨g, cap, cur, h, _, _, h1, _⟩
  · omega
  · injection h with _ _ h3; omega
theorem HostIs.below {B : Nat} {w w' : World} {a : Nat} {m : HostM} {F : Nat → Prop} (h : HostIs B w a m F) (hb : Below w.heap.size w w') : HostIs B w' a m F := by
  obtain ⟨d, v, g, val, FV, FL, h⟩ := h
  exact ⟨d, v, g, val, FV, FL, h.keepS (S := fun _ => False) (Keep.of_below hb) (fun _ _ h => h)⟩
theorem HostIs.lo {B : Nat} {w : World} {a : Nat} {m : HostM} {F : Nat → Prop} (h : HostIs B w a m F) : ∀ x, F x → B ≤ x ∧ x < w.heap.size := by
  obtain ⟨d, v, g, val, FV, FL, h⟩ := h
  exact h.fb
theorem end_state (a0 a1 a2 a3 a4 a5 a6 a7 a8 : Value) (W : World) : (Instr.field 53 (.agg #[a0, a1, a2, a3, a4, a5, a6, a7, a8]) 0).run Tryz.prog W = .ok a0 W := by
  unfold Instr.field
  simp only [Sem.run_bind, run_underlying Tryz.underlying53, Result.andThen]
  have hagg : (isAgg 51).run Tryz.prog W = .ok false W := by kernel_rfl
  show Sem.run _ (do let l ← asAgg (Value.agg #[a0, a1, a2, a3, a4, a5, a6, a7, a8]); part 51 l 0) W = _
  simp [Sem.run_bind, asAgg, part, hagg, Sem.run_pure]
theorem lawAwake_any (w : World) : Calls Tryz.prog 11 #[] w fun e w' => e = .returned (.bool true) ∧ Below w.heap.size w w' := by
  have hsend := small_send
  have hdec := small_frame
  have hfld := end_state
  go_enter Tryz.func11, Tryz.ntmps11
  go_wp2_with fail
  refine (lawSmall_any _).mono ?_
  rintro e w1 ⟨rfl, hb1⟩
  go_wp2_with fail
  refine (hostNew_any smallM w1 small_lawful).mono ?_
  rintro e w2 ⟨a, F, rfl, hI, hb2⟩
  have hb2' := hb1.trans (hb2.mono hb1.size)
  go_wp2_with fail
  refine (hostSend_any w1.heap.size a smallH F w2 hI smallH_good.inv (by decide)).mono ?_
  rw [hsend]
  simp only
  generalize hfr : (UnitM.mk 1 7 0 0 0 smallM.sign).encode = fr at *
  rintro e w3 ⟨x, rfl, hown, t3⟩
  obtain ⟨A3, c3, rfl⟩ := own_slice hown
  have hb3 : Below w.heap.size w w3 := hb2'.trans ((t3.keep.below (B := w.heap.size) hb2'.size (fun b hb => by have := (hI.lo b hb).1; have := hb1.size; omega)))
  have hI3 := t3.is_
  go_wp2_with fail
  refine (r4decode_any A3 _ c3 w3.heap.size fr w3 (Reads.of_own hown) (Nat.le_refl _) (own_cap hown)).mono ?_
  rw [hdec]
  simp only
  rintro e w4 ⟨v4, rfl, hown4, hb4⟩
  obtain ⟨A4, c4, rfl⟩ := own_slice hown4
  have hb4' := hb3.trans (hb4.mono hb3.size)
  generalize smallM.sign.length = nd at *
  have hI4 := (hI3.below hb4).below ((Below.refl w4.heap.size w4).alloc (Nat.le_refl _) (.cells #[.int .i64 1, .int .u32 7, .int .u32 0, .int .u32 0, .int .i64 0, .slice A4 nd c4] 60))
  have hb5 := hb4'.alloc hb4'.size (.cells #[.int .i64 1, .int .u32 7, .int .u32 0, .int .u32 0, .int .i64 0, .slice A4 nd c4] 60)
  unfold unitVal
  simp only
  clear hown4 hfr hsend hdec
  go_wp2_with fail
  have hsee := hostSee_any w1.heap.size a { smallH with waits := true } _ _ hI4 { smallH_good.inv with }
  have hst : ({ smallH with waits := true } : HostM).see.state = 1 := rfl
  generalize ({ smallH with waits := true } : HostM).see = em at hsee hst
  obtain ⟨state, session, number, sent, since, latched, request, on, out⟩ := em
  simp only at hst
  subst hst
  refine hsee.mono ?_
  rintro e w6 ⟨x6, rfl, hown6, hb6⟩
  have hb6' := hb5.trans (hb6.mono hb5.size)
  obtain ⟨A6, c6, rfl⟩ := own_slice hown6
  unfold endVal
  simp only
  go_wp2_with fail
  go_ret
  exact ⟨rfl, hb6'⟩
end Go.Proofs.YtfoldlbnkfnenaaGreat
/- A host takes a unit: the stale ones; take, read, Receive whole. -/
namespace Go.Proofs.YtfoldlbnkfnenaaGreat
open Go.RowKit
set_option maxHeartbeats 10000000
set_option maxRecDepth 100000
section
variable {B a : Nat} {m : HostM} {F : Nat → Prop} {A : Option Addr} {c Br : Nat} {w : World}
/-- Why a unit of the session is stale. -/
def Stale (m : HostM) (kind number : Int) (n : Nat) : Prop :=
  (m.state = 2 ∧ (kind == 18) = false) ∨ (m.state = 3 ∧ (kind == 19) = false) ∨ (m.state = 4 ∧ (kind == 20) = false ∧ (kind == 21) = false) ∨
  (m.state = 4 ∧ kind = 20 ∧ decide (m.number < number) = false) ∨ (m.state = 4 ∧ kind = 20 ∧ decide (m.number < number) = true ∧ decide (number < m.p.count) = false) ∨
  (m.state = 4 ∧ kind = 20 ∧ decide (m.number < number) = true ∧ decide (number < m.p.count) = true ∧ ((n : Int) == m.p.inn) = false) ∨
  (m.state = 4 ∧ kind = 21 ∧ decide (m.number < number) = false) ∨ (m.state = 4 ∧ kind = 21 ∧ decide (m.number < number) = true ∧ (number == m.p.count) = false)
theorem hostTake_stale (kind code number flags : Int) (data : List UInt8) (h : TakeAt B a m F ⟨kind, code, m.session, number, flags, data⟩ A c Br w) (hst : Stale m kind number data.length) :
    Calls Tryz.prog 91 #[.pointer (some ⟨a, 0, none⟩), unitVal ⟨kind, code, m.session, number, flags, data⟩ (.slice A data.length c)] w fun e w' => e = .returned (.int .i64 130) ∧ HostTo B w a m F w' := by
  have hsame := fun w' => h.same (w' := w')
  obtain ⟨d, v, g, val, FV, FL, hH⟩ := h.is_
  have hb0 : Below w.heap.size w (w.alloc (.cells #[.int .i64 kind, .int .u32 code, .int .u32 m.session, .int .u32 number, .int .i64 flags, .slice A data.length c] 60)) := (Below.refl _ _).alloc (Nat.le_refl _) _
  have hA1 := hH.blk.below hb0 hH.blk.lt
  have hU1 := Blk.new w 60 #[.int .i64 kind, .int .u32 code, .int .u32 m.session, .int .u32 number, .int .i64 flags, .slice A data.length c]
  obtain ⟨u0, Hu0⟩ : ∃ e, Hid (e = w.heap.size) := ⟨_, Lib.hid rfl⟩
  clear h
  have hc := hA1.cell
  unfold hostCells at hc
  unfold unitVal
  simp only
  generalize data.length = n at *
  rcases hst with ⟨hs, g1⟩ | ⟨hs, g1⟩ | ⟨hs, g1, g2⟩ | ⟨hs, rfl, g1⟩ | ⟨hs, rfl, g1, g2⟩ | ⟨hs, rfl, g1, g2, g3⟩ | ⟨hs, rfl, g1⟩ | ⟨hs, rfl, g1, g2⟩
  all_goals
    rw [hs] at hc
    go_enter Tryz.func91, Tryz.ntmps91
    go_upto_region 2 with fail
    rw [← Hu0.out] at hU1 ⊢
    generalize w.alloc (.cells _ 60) = W1 at *
    have huc := hU1.cell
    go_wp2_with fail
    go_big_quiet (fail)
    have hA2 := hA1.drewN nq
    have hU2 := hU1.drewN nq
    have hb2 := belowN hb0 nq
    generalize W1.drewN nq = W2 at *
    clear hc huc hA1 hU1 hb0
    have hc := hA2.cell
    have huc := hU2.cell
    unfold hostCells at hc
    rw [hs] at hc
    go_wp2_with fail
    go_big_quiet (fail)
    go_wp2_with fail
    go_ret
    exact ⟨rfl, hsame _ (belowN hb2 _)⟩
theorem stale_of {kind number : Int} {n : Nat} (hst : 1 ≤ m.state ∧ m.state ≤ 5) (s1 : m.state ≠ 1) (s5 : m.state ≠ 5) (c1 : ¬ (m.state = 2 ∧ kind = 18)) (c2 : ¬ (m.state = 3 ∧ kind = 19)) (c3 : ¬ (m.state = 4 ∧ kind = 20 ∧ m.number < number ∧ number < m.p.count ∧ (n : Int) = m.p.inn)) (c4 : ¬ (m.state = 4 ∧ kind = 21 ∧ m.number < number ∧ number = m.p.count)) : Stale m kind number n := by
  unfold Stale
  have h234 : m.state = 2 ∨ m.state = 3 ∨ m.state = 4 := by omega
  rcases h234 with hs | hs | hs
  · exact .inl ⟨hs, by simpa using fun h => c1 ⟨hs, h⟩⟩
  · exact .inr (.inl ⟨hs, by simpa using fun h => c2 ⟨hs, h⟩⟩)
  · by_cases k20 : kind = 20
    · by_cases n1 : m.number < number
      · by_cases n2 : number < m.p.count
        · have n3 : ¬ (n : Int) = m.p.inn := fun h => c3 ⟨hs, k20, n1, n2, h⟩
          exact .inr (.inr (.inr (.inr (.inr (.inl ⟨hs, k20, by simpa using n1, by simpa using n2, by simpa using n3⟩)))))
        · exact .inr (.inr (.inr (.inr (.inl ⟨hs, k20, by simpa using n1, by simpa using n2⟩))))
      · exact .inr (.inr (.inr (.inl ⟨hs, k20, by simpa using n1⟩)))
    · by_cases k21 : kind = 21
      · by_cases n1 : m.number < number
        · have n2 : ¬ number = m.p.count := fun h => c4 ⟨hs, k21, n1, h⟩
          exact .inr (.inr (.inr (.inr (.inr (.inr (.inr ⟨hs, k21, by simpa using n1, by simpa using n2⟩))))))
        · exact .inr (.inr (.inr (.inr (.inr (.inr (.inl ⟨hs, k21, by simpa using n1⟩))))))
      · exact .inr (.inr (.inl ⟨hs, by simpa using k20, by simpa using k21⟩))
theorem HostTo.ofBelow (h0 : HostIs B w a m F) {w' : World} (hb : Below w.heap.size w w') : HostTo B w a m F w' := by
  obtain ⟨d, v, g, val, FV, FL, hH⟩ := h0
  exact hH.toIs (hH.keepS (S := fun _ => False) (Keep.of_below hb) (fun _ _ h => h)) (fun x hx => .inl hx) (Keep.of_below hb)
theorem hostTake_any (u : UnitM) (h : TakeAt B a m F u A c Br w) :
    Calls Tryz.prog 91 #[.pointer (some ⟨a, 0, none⟩), unitVal u (.slice A u.data.length c)] w fun e w' => e = .returned (.int .i64 (m.take u).2) ∧ HostTo B w a (m.take u).1 F w' := by
  obtain ⟨kind, code, session, number, flags, data⟩ := u
  obtain rfl : session = m.session := h.ses
  have hst := h.inv.state
  have s1 := h.s1
  have s5 := h.s5
  have s5' : ¬ (m.session ≠ m.session ∨ m.state = 5) := by simp [s5]
  by_cases c1 : m.state = 2 ∧ kind = 18
  · obtain ⟨hs, rfl⟩ := c1
    have e : m.take ⟨18, code, m.session, number, flags, data⟩ = (({ m with state := 3 } : HostM).alive, 0) := by unfold HostM.take; rw [if_neg s1, if_neg s5', if_pos ⟨hs, rfl⟩]
    rw [e]
    exact hostTake_agreed code number flags data h hs
  by_cases c2 : m.state = 3 ∧ kind = 19
  · obtain ⟨hs, rfl⟩ := c2
    have e : m.take ⟨19, code, m.session, number, flags, data⟩ = ((({ m with state := 4 } : HostM).run true).alive, 0) := by unfold HostM.take; rw [if_neg s1, if_neg s5', if_neg c1, if_pos ⟨hs, rfl⟩]
    rw [e]
    exact hostTake_started code number flags data h hs
  by_cases c3 : m.state = 4 ∧ kind = 20 ∧ m.number < number ∧ number < m.p.count ∧ (data.length : Int) = m.p.inn
  · obtain ⟨hs, rfl, h1, h2, h3⟩ := c3
    have e : m.take ⟨20, code, m.session, number, flags, data⟩ = ({ ({ m with number := number } : HostM).alive with valve := ((({ m with number := number } : HostM).alive.valve.hold (decide (8 ≤ flags))).take data) }, 0) := by
      unfold HostM.take; rw [if_neg s1, if_neg s5', if_neg c1, if_neg c2, if_pos ⟨hs, rfl, h1, h2, h3⟩]
    rw [e]
    exact hostTake_data code number flags data h hs h1 h2 h3
  by_cases c4 : m.state = 4 ∧ kind = 21 ∧ m.number < number ∧ number = m.p.count
  · obtain ⟨hs, rfl, h1, h2⟩ := c4
    have e : m.take ⟨21, code, m.session, number, flags, data⟩ = ({ ((({ m with number := number } : HostM).alive.trip 80).run false) with state := 5 }, 0) := by
      unfold HostM.take; rw [if_neg s1, if_neg s5', if_neg c1, if_neg c2, if_neg c3, if_pos ⟨hs, rfl, h1, h2⟩]
    rw [e]
    exact hostTake_last code number flags data h hs h1 h2
  · have e : m.take ⟨kind, code, m.session, number, flags, data⟩ = (m, 130) := by unfold HostM.take; rw [if_neg s1, if_neg s5', if_neg c1, if_neg c2, if_neg c3, if_neg c4]
    rw [e]
    exact hostTake_stale kind code number flags data h (stale_of hst s1 s5 c1 c2 c3 c4)
theorem hostRead_any (n : Nat) (l : List UInt8) (h0 : HostIs B w a m F) (hg : m.Good) (hlen : m.log.length < 1073741800) (hr : Reads w Br 1 A n (u8c l)) (hB : Br ≤ w.heap.size) (hc : n ≤ c) (hn : n ≤ 140737488351232) :
    Calls Tryz.prog 49 #[.pointer (some ⟨a, 0, none⟩), .slice A n c] w fun e w' => e = .returned (.int .i64 (m.read l).2) ∧ HostTo B w a (m.read l).1 F w' := by
  have hi := hg.inv
  obtain ⟨q, Hq⟩ : ∃ q, Hid (q = m.read l) := ⟨_, Lib.hid rfl⟩
  rw [← Hq.out]
  have Hq2 : Hid (q = if (decodeM l).2 ≠ 0 then (m, (decodeM l).2) else if !isDev (decodeM l).1.kind then (m, 43) else if (decodeM l).1.code ≠ m.p.code then (m, 44) else m.take (decodeM l).1) := Lib.hid Hq.out
  have hok := decode_ok l
  have hlw := fun h => (decode_lawful l h).1
  have hdec := unitDecode_any A n c Br l w hr hB hc hn
  generalize decodeM l = d at *
  clear Hq hr
  obtain ⟨⟨kind, code, session, number, flags, data⟩, er⟩ := d
  simp only at *
  have hlo := h0.lo
  go_enter Tryz.func49, Tryz.ntmps49
  go_wp2_with fail
  refine hdec.mono ?_
  rintro e w1 ⟨v, rfl, hown, hb1⟩
  obtain ⟨Av, cv, rfl⟩ := own_slice hown
  unfold unitVal
  simp only
  have hbW := hb1.alloc hb1.size (.cells #[.int .i64 kind, .int .u32 code, .int .u32 session, .int .u32 number, .int .i64 flags, .slice Av data.length cv] 60)
  have hs1 := hb1.size
  by_cases he : er = 0
  · subst he
    have hl0 := hlw rfl
    have hd8 := UnitM.lawful_len hl0
    have hfl := lawful_flags hl0
    simp only at hd8 hfl
    have hr1 := (Reads.of_own hown).alloc (Nat.le_refl _) (.cells #[.int .i64 kind, .int .u32 code, .int .u32 session, .int .u32 number, .int .i64 flags, .slice Av data.length cv] 60)
    have hU1 := Blk.new w1 60 #[.int .i64 kind, .int .u32 code, .int .u32 session, .int .u32 number, .int .i64 flags, .slice Av data.length cv]
    have haf : ∀ ad, Av = some ad → ¬ F ad.block := fun ad e hx => by
      subst e
      have := (hown.lt ad.block rfl).1
      have := (hlo ad.block hx).2
      omega
    have Hq3 : Hid (q = if !isDev kind then (m, 43) else if code ≠ m.p.code then (m, 44) else m.take ⟨kind, code, session, number, flags, data⟩) := Lib.hid (by rw [Hq2.out]; simp)
    clear hlw hdec Hq2 hl0
    cases hdv : isDev kind with
    | false =>
      have e1 : q = (m, 43) := by rw [Hq3.out, hdv]; rfl
      subst e1
      go_wp2_with fail
      refine (unitFromDevice_any kind _).mono ?_
      rw [hdv]
      rintro e w2 ⟨rfl, rfl⟩
      go_wp2_with fail
      go_ret
      exact ⟨rfl, HostTo.ofBelow h0 hbW⟩
    | true =>
      have Hq4 : Hid (q = if code ≠ m.p.code then (m, 44) else m.take ⟨kind, code, session, number, flags, data⟩) := Lib.hid (by rw [Hq3.out, hdv]; rfl)
      clear Hq3
      have h1 := (HostTo.ofBelow h0 hbW).is_
      obtain ⟨d, v, g, val, FV, FL, hH⟩ := h0
      have hA1 := hH.keepS (S := fun _ => False) (Keep.of_below hbW) (fun _ _ h => h)
      go_wp2_with fail
      refine (unitFromDevice_any kind _).mono ?_
      rw [hdv]
      rintro e w2 ⟨rfl, hW2⟩
      rw [← hW2] at hA1 hr1 hU1 hbW
      obtain ⟨u0, Hu0⟩ : ∃ e, Hid (e = w1.heap.size) := ⟨_, Lib.hid rfl⟩
      rw [← Hu0.out] at hU1 ⊢
      have hz2 : w1.heap.size ≤ w2.heap.size := by rw [hW2]; simp
      clear hW2 h1
      have hc := hA1.blk.cell
      unfold hostCells at hc
      have huc := hU1.cell
      by_cases hco : code = m.p.code
      · have Hq5 : Hid (q = m.take ⟨kind, code, session, number, flags, data⟩) := Lib.hid (by rw [Hq4.out, if_neg (by simpa using hco)])
        have gco : (code != m.p.code) = false := by simpa using hco
        clear hco Hq4
        go_wp2_with fail
        go_big_quiet (fail)
        have hA2 := hA1.keepS (S := fun _ => False) ((Keep.refl _ w2).drewN nq) (fun _ _ h => h)
        have hU2 := hU1.drewN nq
        have hb2 := belowN hbW nq
        have hr2 := hr1.drewN nq
        have hz3 : w1.heap.size ≤ (w2.drewN nq).heap.size := hz2
        generalize w2.drewN nq = W3 at *
        clear hc huc hA1 hU1 hbW hr1 hz2
        have hc := hA2.blk.cell
        unfold hostCells at hc
        have huc := hU2.cell
        by_cases hs1' : m.state = 1
        · rw [hs1'] at hc
          go_wp2_with fail
          refine (hostOffered_any B a m F ⟨kind, code, session, number, flags, data⟩ Av cv w1.heap.size W3 ⟨d, v, g, val, FV, FL, hA2⟩ hi hs1' ⟨hok.2.2, hok.1, hok.2.1⟩ hr2 hz3 (by simp only; omega)).mono ?_
          rintro e W4 ⟨rfl, t4⟩
          rw [← Hq5.out] at t4 ⊢
          go_wp2_with fail
          go_ret
          exact ⟨rfl, HostTo.trans ⟨d, v, g, val, FV, FL, hH⟩ (HostTo.ofBelow ⟨d, v, g, val, FV, FL, hH⟩ hb2) ⟨by obtain ⟨d', v', g', val', FV', FL', hx⟩ := t4.is_; exact ⟨d', v', g', val', FV', FL', hx.mono (fun x hx => hx.elim (fun h => .inl (.inl h)) .inr) (grow_fb (grow_fb hH.fb hH.Ble hb2.size) (by have := hH.Ble; have := hb2.size; omega) t4.keep.size)⟩, t4.keep.mono (fun x _ hx => .inl hx)⟩⟩
        · have gs1 : (m.state == 1) = false := by simpa using hs1'
          go_wp2_with fail
          by_cases hst : session ≠ m.session ∨ m.state = 5
          · have e1 : q = (m, 130) := by rw [Hq5.out]; unfold HostM.take; rw [if_neg hs1', if_pos hst]
            subst e1
            by_cases hss : session = m.session
            · have h5 : m.state = 5 := hst.resolve_left (by simpa using hss)
              have gss : (session != m.session) = false := by simpa using hss
              rw [h5] at hc
              clear hss hst gs1
              go_big_quiet (fail)
              go_wp2_with fail
              go_ret
              exact ⟨rfl, HostTo.ofBelow ⟨d, v, g, val, FV, FL, hH⟩ (belowN hb2 _)⟩
            · have gss : (session != m.session) = true := by simpa using hss
              go_big_quiet (fail)
              go_wp2_with fail
              go_ret
              exact ⟨rfl, HostTo.ofBelow ⟨d, v, g, val, FV, FL, hH⟩ (belowN hb2 _)⟩
          · have hss : session = m.session := by
              by_cases h : session = m.session
              · exact h
              · exact absurd (.inl h) hst
            have h5 : ¬ m.state = 5 := fun h => hst (.inr h)
            have gss : (session != m.session) = false := by simpa using hss
            have g5 : (m.state == 5) = false := by simpa using h5
            have Hss := Lib.hid hss
            have H5 := Lib.hid h5
            clear hst hss h5
            go_big_quiet (fail)
            have hA3 := hA2.keepS (S := fun _ => False) ((Keep.refl _ W3).drewN nq) (fun _ _ h => h)
            have hU3 := hU2.drewN nq
            have hb3 := belowN hb2 nq
            have hr3 := hr2.drewN nq
            have hz4 : w1.heap.size ≤ (W3.drewN nq).heap.size := hz3
            generalize W3.drewN nq = W4 at *
            clear hc huc hA2 hU2 hb2 hr2 hz3
            have huc := hU3.cell
            go_wp2_with fail
            refine (hostTake_any ⟨kind, code, session, number, flags, data⟩ ⟨⟨d, v, g, val, FV, FL, hA3⟩, hi, hs1', H5.out, Hss.out, ⟨hok.2.2, hok.1, hok.2.1⟩, hr3, hz4, hd8, hfl, hlen, haf⟩).mono ?_
            rintro e W5 ⟨rfl, t5⟩
            rw [← Hq5.out] at t5 ⊢
            go_wp2_with fail
            go_ret
            exact ⟨rfl, HostTo.trans ⟨d, v, g, val, FV, FL, hH⟩ (HostTo.ofBelow ⟨d, v, g, val, FV, FL, hH⟩ hb3) ⟨by obtain ⟨d', v', g', val', FV', FL', hx⟩ := t5.is_; exact ⟨d', v', g', val', FV', FL', hx.mono (fun x hx => hx.elim (fun h => .inl (.inl h)) .inr) (grow_fb (grow_fb hH.fb hH.Ble hb3.size) (by have := hH.Ble; have := hb3.size; omega) t5.keep.size)⟩, t5.keep.mono (fun x _ hx => .inl hx)⟩⟩
      · have e1 : q = (m, 44) := by rw [Hq4.out, if_pos hco]
        subst e1
        have gco : (code != m.p.code) = true := by simpa using hco
        go_wp2_with fail
        go_big_quiet (fail)
        go_wp2_with fail
        go_ret
        exact ⟨rfl, HostTo.ofBelow ⟨d, v, g, val, FV, FL, hH⟩ (belowN hbW _)⟩
  · have e1 : q = (m, er) := by rw [Hq2.out, if_pos he]
    subst e1
    have g1 : (er != 0) = true := by simpa using he
    clear Hq2 hdec
    go_wp2_with fail
    go_ret
    exact ⟨rfl, HostTo.ofBelow h0 hbW⟩
theorem take_log (m : HostM) (u : UnitM) : (m.take u).1.log.length ≤ m.log.length + 1 := by
  unfold HostM.take
  split
  · split
    · simp
    split <;> simp [HostM.alive]
  split
  · simp
  split
  · simp [HostM.alive]
  split
  · simp [HostM.alive, HostM.run]
  split
  · simp [HostM.alive]
  split
  · have := trip_log ({ m with number := u.number } : HostM).alive 80
    simpa [HostM.run, HostM.alive] using this
  · simp
theorem read_log (m : HostM) (l : List UInt8) : (m.read l).1.log.length ≤ m.log.length + 1 := by
  unfold HostM.read
  simp only
  split
  · simp
  split
  · simp
  split
  · simp
  · exact take_log m _
theorem hostReceive_any (n : Nat) (l : List UInt8) (h0 : HostIs B w a m F) (hg : m.Good) (hlen : m.log.length < 1073741700) (hr : Reads w Br 1 A n (u8c l)) (hB : Br ≤ w.heap.size) (hc : n ≤ c) (hn : n ≤ 140737488351232) :
    Calls Tryz.prog 22 #[.pointer (some ⟨a, 0, none⟩), .slice A n c] w fun e w' => e = .returned (.int .i64 (m.receive l).2) ∧ HostTo B w a (m.receive l).1 F w' :=
  hostReceive_of B a m F A n c l w h0 (by have := read_log m l; omega) (hostRead_any n l h0 hg (by omega) hr hB hc hn)
end
end Go.Proofs.YtfoldlbnkfnenaaGreat
