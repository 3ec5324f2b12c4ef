/- The base of the laws, part 10: contracts and plain lemmas, no statement. -/
import Derived.Test.YtlldgfejcjnpkaaGreatBase7
import Derived.Test.YtlldgfejcjnpkaaGreatBase9
set_option linter.unusedVariables false
/- The reference's Encode (parapetref04). -/
namespace Go.Proofs.YtlldgfejcjnpkaaGreat
open Go.RowKit
set_option maxHeartbeats 10000000
set_option maxRecDepth 100000

theorem r4encode_any (u : UnitM) (A : Option Addr) (c B : Nat) (w : World) (ho : u.Ok) (hr : Reads w B 1 A u.data.length (u8c u.data)) (hB : B ≤ w.heap.size) :
    Calls Tryz.prog 89 #[unitVal u (.slice A u.data.length c)] w fun e w' => ∃ v, e = .returned (.tuple #[v, .int .i64 u.lawful]) ∧ w'.ownsRow w.heap.size 5 1 v u.encode.length (u8c u.encode) ∧ Below w.heap.size w w' := by
  obtain ⟨i0, hi0, hz0, hz1, hz2⟩ := info_parts byte_info
  have hlaw := fun w => r4lawful_any u A c w ho.session.1 ho.number.1
  have hlen := @UnitM.lawful_len u
  obtain ⟨code, hcode⟩ := word_ex ho.code
  obtain ⟨session, hsession⟩ := word_ex ho.session
  obtain ⟨number, hnumber⟩ := word_ex ho.number
  have henc : u.encode = if u.lawful = 0 then sealM (([byteOf u.kind] ++ wordOf code ++ wordOf session ++ wordOf number ++ [byteOf u.flags, byteOf u.data.length]) ++ u.data) else [] := by
    unfold UnitM.encode UnitM.body
    rw [hcode, hsession, hnumber, wordBytes_nat, wordBytes_nat, wordBytes_nat]
  obtain ⟨enc, he⟩ : ∃ enc, enc = u.encode := ⟨_, rfl⟩
  rw [← he]
  rw [← he] at henc
  clear he
  generalize u.lawful = law at *
  obtain ⟨kind, code', session', number', flags, data⟩ := u
  simp only at *
  subst hcode hsession hnumber
  unfold unitVal at *
  simp only at *
  have Henc := Lib.hid henc
  clear henc ho
  go_enter Tryz.func89, Tryz.ntmps89
  go_wp2_with fail
  refine (hlaw _).mono ?_
  rintro e w1 ⟨rfl, hb1⟩
  have hb1' : Below w.heap.size w w1 := ((Below.refl _ _).alloc (Nat.le_refl _) _).trans (hb1.mono (by simp))
  by_cases hl : law = 0
  · subst hl
    have hd8 := hlen rfl
    have hB1 := (Blk.new w 64 #[Value.int .i64 kind, u32v code, u32v session, u32v number, .int .i64 flags, .slice A data.length c]).below hb1 (by simp)
    clear hb1 hlen hlaw
    have hc1 : ∀ i, w1.cell? ⟨w.heap.size, i, none⟩ = (#[Value.int .i64 kind, u32v code, u32v session, u32v number, .int .i64 flags, .slice A data.length c] : Array Value)[i]? := hB1.cell
    have hr1 := hr.below (hb1'.mono hB)
    have hn1 := hb1'.size
    have hlt1 := hB1.lt
    have hBl : B ≤ w1.heap.size := by omega
    have hkind : (u8c [byteOf kind]).toArray = #[Value.int .u8 (kind % 256)] := by simp [u8c, byteOf_val]
    have hown : (w1.alloc (.cells #[Value.int .u8 (kind % 256)] 5)).ownsRow w1.heap.size 5 1 (.slice (some ⟨w1.heap.size, 0, none⟩) 1 1) 1 (u8c [byteOf kind]) := by
      have := own_full w1 #[Value.int .u8 (kind % 256)] 5 w1.heap.size (Nat.le_refl _) (by simp [maxLen])
      rw [← hkind] at this ⊢
      exact this
    have hbW : Below w.heap.size w (w1.alloc (.cells #[Value.int .u8 (kind % 256)] 5)) := hb1'.alloc hn1 _
    have hsz : w1.heap.size ≤ (w1.alloc (.cells #[Value.int .u8 (kind % 256)] 5)).heap.size := by simp
    replace hB1 := hB1.alloc (.cells #[Value.int .u8 (kind % 256)] 5)
    replace hr1 := hr1.alloc hBl (.cells #[Value.int .u8 (kind % 256)] 5)
    clear hb1' hkind hr
    go_wp2_with fail
    clear hc1
    refine (rword_any code _).mono ?_
    rintro e w1a ⟨v1a, rfl, hw, hb⟩
    obtain ⟨Aw1, cw1, rfl⟩ := own_slice hw
    replace hB1 := hB1.below hb hB1.lt
    replace hr1 := hr1.below (hb.mono (Nat.le_trans hBl hsz))
    replace hbW := hbW.trans (hb.mono hbW.size)
    replace hown := own_below hown hb
    replace hsz := Nat.le_trans hsz hb.size
    have hlt1 := hown.lt
    clear hb
    go_wp2_with (at_builtin; refine wpList_append_any _ rfl (.tmp 15) (.tmp 18) _ rfl w1.heap.size 5 i0 _ 1 1 Tryz.underlying22 hi0 hz0 hz1 hz2 rfl (by omega) (.slice (some ⟨w1.heap.size, 0, none⟩) 1 1) 1 (u8c [byteOf kind]) rfl hown w1a.heap.size Aw1 4 cw1 (u8c (wordOf code)) rfl (Reads.of_own hw) (u8c_one _) (by unfold maxLen; omega) (by omega) hsz ?_; intro v1b w1b hownN hg hat; rw [← u8c_append] at hownN; simp only [Nat.reduceAdd] at hownN; obtain ⟨A1s, c1s, rfl⟩ := own_slice hownN; clear hown; have hown := hownN; clear hownN; have hBn := hB1.grown hg (fun h => by have := (hlt1 _ h).1; omega); clear hB1; have hB1 := hBn; clear hBn; have hc1 := hB1.cell; have hrn := hr1.grown hg (Nat.le_trans hBl hsz) (fun g h => by have := (hlt1 g h).1; omega); clear hr1; have hr1 := hrn; clear hrn; have hbn := hbW.grown hg hbW.size (fun g h => by have := (hlt1 g h).1; omega); clear hbW; have hbW := hbn; clear hbn; have hsn := Nat.le_trans hsz hg.size; clear hsz; have hsz := hsn; clear hsn hg hat)
    clear hc1
    refine (rword_any session _).mono ?_
    rintro e w2a ⟨v2a, rfl, hw, hb⟩
    obtain ⟨Aw2, cw2, rfl⟩ := own_slice hw
    replace hB1 := hB1.below hb hB1.lt
    replace hr1 := hr1.below (hb.mono (Nat.le_trans hBl hsz))
    replace hbW := hbW.trans (hb.mono hbW.size)
    replace hown := own_below hown hb
    replace hsz := Nat.le_trans hsz hb.size
    have hlt2 := hown.lt
    clear hb
    go_wp2_with (at_builtin; refine wpList_append_any _ rfl (.tmp 20) (.tmp 23) _ rfl w1.heap.size 5 i0 _ 1 1 Tryz.underlying22 hi0 hz0 hz1 hz2 rfl (by omega) (.slice A1s 5 c1s) 5 (u8c ([byteOf kind] ++ wordOf code)) rfl hown w2a.heap.size Aw2 4 cw2 (u8c (wordOf session)) rfl (Reads.of_own hw) (u8c_one _) (by unfold maxLen; omega) (by omega) hsz ?_; intro v2b w2b hownN hg hat; rw [← u8c_append] at hownN; simp only [Nat.reduceAdd] at hownN; obtain ⟨A2s, c2s, rfl⟩ := own_slice hownN; clear hown; have hown := hownN; clear hownN; have hBn := hB1.grown hg (fun h => by have := (hlt2 _ h).1; omega); clear hB1; have hB1 := hBn; clear hBn; have hc2 := hB1.cell; have hrn := hr1.grown hg (Nat.le_trans hBl hsz) (fun g h => by have := (hlt2 g h).1; omega); clear hr1; have hr1 := hrn; clear hrn; have hbn := hbW.grown hg hbW.size (fun g h => by have := (hlt2 g h).1; omega); clear hbW; have hbW := hbn; clear hbn; have hsn := Nat.le_trans hsz hg.size; clear hsz; have hsz := hsn; clear hsn hg hat)
    clear hc2
    refine (rword_any number _).mono ?_
    rintro e w3a ⟨v3a, rfl, hw, hb⟩
    obtain ⟨Aw3, cw3, rfl⟩ := own_slice hw
    replace hB1 := hB1.below hb hB1.lt
    replace hr1 := hr1.below (hb.mono (Nat.le_trans hBl hsz))
    replace hbW := hbW.trans (hb.mono hbW.size)
    replace hown := own_below hown hb
    replace hsz := Nat.le_trans hsz hb.size
    have hlt3 := hown.lt
    clear hb
    go_wp2_with (first
      | (at_builtin; refine wpList_append_any _ rfl (.tmp 25) (.tmp 28) _ rfl w1.heap.size 5 i0 _ 1 1 Tryz.underlying22 hi0 hz0 hz1 hz2 rfl (by omega) (.slice A2s 9 c2s) 9 (u8c ([byteOf kind] ++ wordOf code ++ wordOf session)) rfl hown w3a.heap.size Aw3 4 cw3 (u8c (wordOf number)) rfl (Reads.of_own hw) (u8c_one _) (by unfold maxLen; omega) (by omega) hsz ?_; intro v3b w3b hownN hg hat; rw [← u8c_append] at hownN; simp only [Nat.reduceAdd] at hownN; obtain ⟨A3s, c3s, rfl⟩ := own_slice hownN; clear hown; have hown := hownN; clear hownN; have hBn := hB1.grown hg (fun h => by have := (hlt3 _ h).1; omega); clear hB1; have hB1 := hBn; clear hBn; have hc3 := hB1.cell; have hrn := hr1.grown hg (Nat.le_trans hBl hsz) (fun g h => by have := (hlt3 g h).1; omega); clear hr1; have hr1 := hrn; clear hrn; have hbn := hbW.grown hg hbW.size (fun g h => by have := (hlt3 g h).1; omega); clear hbW; have hbW := hbn; clear hbn; have hsn := Nat.le_trans hsz hg.size; clear hsz; have hsz := hsn; clear hsn hg hat)
      | (at_builtin; refine wpList_append_any _ rfl (.tmp 30) (.tmp 38) _ rfl w1.heap.size 5 i0 _ 1 1 Tryz.underlying22 hi0 hz0 hz1 hz2 rfl (by omega) (.slice A3s 13 c3s) 13 (u8c ([byteOf kind] ++ wordOf code ++ wordOf session ++ wordOf number)) rfl (hown.alloc _) (w3b.heap.size + 1) (some ⟨w3b.heap.size, 0, none⟩) 2 2 (u8c [byteOf flags, byteOf data.length]) rfl (by simpa using two_reads (by omega) (Blk.new w3b 5 _)) (u8c_one _) (by unfold maxLen; omega) (by omega) (by simp; omega) ?_; intro v4 w4 hown4 hg4 hat4; have hlt3b := hown.lt; have hB4 := (hB1.alloc _).grown hg4 (fun h => by have := (hlt3b _ h).1; omega); have hc4 := hB4.cell; have hr4 := (hr1.alloc (by omega) _).grown hg4 (by simp; omega) (fun g h => by have := (hlt3b g h).1; omega); have hs4 := hg4.size; have hlt4 := hown4.lt; have hbW4 := (hbW.alloc hbW.size _).grown hg4 (by have := hbW.size; simp; omega) (fun k hk => by have := (hlt3b k hk).1; omega); rw [← u8c_append] at hown4; simp only [Nat.reduceAdd] at hown4; obtain ⟨A4, c4, rfl⟩ := own_slice hown4)
      | (at_builtin; refine wpList_append_any _ rfl (.tmp 40) (.tmp 42) _ rfl w1.heap.size 5 i0 _ 1 1 Tryz.underlying22 hi0 hz0 hz1 hz2 rfl (by omega) (.slice A4 15 c4) 15 _ rfl hown4 B A data.length c (u8c data) rfl hr4 (u8c_one _) (by unfold maxLen; omega) (by omega) (by simp at hs4; omega) ?_; intro v5 w5 hown5 hg5 hat5; have hbW5 := hbW4.grown hg5 (by simp at hs4; omega) (fun k hk => by have := (hlt4 k hk).1; omega); rw [← u8c_append] at hown5; obtain ⟨A5, c5, rfl⟩ := own_slice hown5))
    have hw5 := hbW5.size
    refine (rseal_any A5 _ c5 _ w5.heap.size w5 (Reads.of_own hown5) (Nat.le_refl _) (by omega)).mono ?_
    rintro e w6 ⟨v6, rfl, hown6, hb6⟩
    go_wp2_with fail
    refine bodyPost_ret (v := .tuple #[v6, .int .i64 0]) (by simp [results, Tryz.results89, go_sem]) rfl ⟨_, rfl, ?_, hbW5.trans (hb6.mono hw5)⟩
    rw [Henc.out, if_pos trivial]
    have hlen : (sealM ([byteOf kind] ++ wordOf code ++ wordOf session ++ wordOf number ++ [byteOf flags, byteOf data.length] ++ data)).length = 15 + data.length + 4 := by
      simp [sealM, wordOf]; omega
    rw [hlen]
    exact own_base hown6 hw5
  · have g1 : (law != 0) = true := by simpa using hl
    have hnil : enc = [] := by rw [Henc.out, if_neg hl]
    subst hnil
    go_wp2_with fail
    refine bodyPost_ret (v := .tuple #[.slice none 0 0, .int .i64 law]) (by simp [results, Tryz.results89, go_sem]) rfl ⟨_, rfl, World.ownsRow_nil _ _ _ _, hb1'⟩
end Go.Proofs.YtlldgfejcjnpkaaGreat
/- The reference's Decode (parapetref04). -/
namespace Go.Proofs.YtlldgfejcjnpkaaGreat
open Go.RowKit
set_option maxHeartbeats 10000000
set_option maxRecDepth 100000

theorem r4word_at (i : Nat) (ad : Addr) (n m c B : Nat) (l : List UInt8) (w : World) (hi : 0 < i) (hm : 4 ≤ m) (him : i + 4 ≤ n) (h : Reads w B 1 (some ad) n (u8c l)) :
    Calls Tryz.prog 72 #[.slice (some ⟨ad.block, ad.off + i, none⟩) m c] w fun e w' => e = .returned (.int .u32 (numAt l i)) ∧ ∃ k, w' = w.drewN k := by
  have e : ad.add i = ⟨ad.block, ad.off + i, none⟩ := by unfold Addr.add; rw [if_neg (by omega)]
  have g : ∀ j, (⟨ad.block, ad.off + i, none⟩ : Addr).add j = ad.add (i + j) := fun j => by rw [← e, add_of_add]
  refine r4word_any _ m c (l.getD i 0) (l.getD (i + 1) 0) (l.getD (i + 2) 0) (l.getD (i + 3) 0) w hm ?_ ?_ ?_ ?_ <;> rw [g]
  · exact h.byte (i + 0) (by omega)
  · exact h.byte (i + 1) (by omega)
  · exact h.byte (i + 2) (by omega)
  · exact h.byte (i + 3) (by omega)
theorem cut_mid (ad : Addr) (i j m c : Nat) (hi : 0 < i) (hij : i ≤ j) (hjc : j ≤ c) (hc : ¬ c = i) (W : World) : (Instr.slice 22 (.slice (some ad) m c) (some (.int .i64 (i : Int))) (some (.int .i64 (j : Int))) none).run Tryz.prog W = .ok (.slice (some ⟨ad.block, ad.off + i, none⟩) (j - i) (c - i)) W := by
  rw [run_slice_lh (P := Tryz.prog) (w := W) 22 _ _ _ (by kernel_rfl) .i64 .i64 i j (by omega) (by omega) (by omega)]
  have hs : (sizeOf ((Tryz.prog).elem 22)).run Tryz.prog W = .ok 1 W := by kernel_rfl
  rw [hs]
  have hi0 : ¬ i = 0 := by omega
  simp [Result.andThen, sliced, hc, Addr.add, hi0]
/-- The zero unit with a fault, behind its store. -/
theorem r4zero {w : World} {g : Nat} (h : Blk w g 64 #[.int .i64 0, .int .u32 0, .int .u32 0, .int .u32 0, .int .i64 0, .slice none 0 0]) {B : Nat} {w0 : World} (hb : Below B w0 w) (hg : B ≤ g) :
    Blk ((((((w.setCell ⟨g, 0, none⟩ (.int .i64 0)).setCell ⟨g, 1, none⟩ (.int .u32 0)).setCell ⟨g, 2, none⟩ (.int .u32 0)).setCell ⟨g, 3, none⟩ (.int .u32 0)).setCell ⟨g, 4, none⟩ (.int .i64 0)).setCell ⟨g, 5, none⟩ (.slice none 0 0)) g 64 #[.int .i64 0, .int .u32 0, .int .u32 0, .int .u32 0, .int .i64 0, .slice none 0 0] ∧
    Below B w0 ((((((w.setCell ⟨g, 0, none⟩ (.int .i64 0)).setCell ⟨g, 1, none⟩ (.int .u32 0)).setCell ⟨g, 2, none⟩ (.int .u32 0)).setCell ⟨g, 3, none⟩ (.int .u32 0)).setCell ⟨g, 4, none⟩ (.int .i64 0)).setCell ⟨g, 5, none⟩ (.slice none 0 0)) :=
  ⟨h.store6 _ _ _ _ _ _, below_store6 hb hg _ _ _ _ _ _⟩
theorem r4decode_any (A : Option Addr) (n c B : Nat) (l : List UInt8) (w : World) (hr : Reads w B 1 A n (u8c l)) (hB : B ≤ w.heap.size) (hc : n ≤ c) :
    Calls Tryz.prog 25 #[.slice A n c] w fun e w' => ∃ v, e = .returned (.tuple #[unitVal (decodeM l).1 v, .int .i64 (decodeM l).2]) ∧ w'.ownsRow w.heap.size 5 1 v (decodeM l).1.data.length (u8c (decodeM l).1.data) ∧ Below w.heap.size w w' := by
  have hl : l.length = n := by have := hr.1; simpa [u8c] using this
  have hbz : Below w.heap.size w (w.alloc (.cells #[.int .i64 0, .int .u32 0, .int .u32 0, .int .u32 0, .int .i64 0, .slice none 0 0] 64)) := (Below.refl _ _).alloc (Nat.le_refl _) _
  have hz0 := Blk.new w 64 #[.int .i64 0, .int .u32 0, .int .u32 0, .int .u32 0, .int .i64 0, .slice none 0 0]
  have hrz := hr.alloc hB (.cells #[.int .i64 0, .int .u32 0, .int .u32 0, .int .u32 0, .int .i64 0, .slice none 0 0] 64)
  have hs0 := hbz.size
  obtain ⟨g, Hg⟩ : ∃ g, Hid (g = w.heap.size) := ⟨_, Lib.hid rfl⟩
  have hgw : w.heap.size ≤ g := by have := Hg.out; omega
  by_cases h19 : n < 19
  · have e : decodeM l = (.zero, 40) := by unfold decodeM; rw [if_pos (by omega)]
    rw [e]
    clear e
    go_enter Tryz.func25, Tryz.ntmps25
    go_upto_region 1 with fail
    rw [← Hg.out] at hz0 ⊢
    generalize w.alloc (.cells #[.int .i64 0, .int .u32 0, .int .u32 0, .int .u32 0, .int .i64 0, .slice none 0 0] 64) = W0 at *
    have hcz := hz0.cell
    have hfz := hz0.frozen
    go_wp2_with fail
    obtain ⟨hB3, hb3⟩ := r4zero hz0 hbz hgw
    clear hcz hfz
    generalize (((((W0.setCell ⟨g, 0, none⟩ _).setCell ⟨g, 1, none⟩ _).setCell ⟨g, 2, none⟩ _).setCell ⟨g, 3, none⟩ _).setCell ⟨g, 4, none⟩ _).setCell ⟨g, 5, none⟩ _ = W3 at *
    have hcz := hB3.cell
    refine bodyPost_ret (v := .tuple #[unitVal .zero (.slice none 0 0), .int .i64 40]) (by simp [results, Tryz.results25, go_sem, unitVal, UnitM.zero, hcz]) rfl ⟨_, rfl, World.ownsRow_nil _ _ _ _, hb3⟩
  by_cases h27 : 27 < n
  · have e : decodeM l = (.zero, 41) := by unfold decodeM; rw [if_neg (by omega), if_pos (by omega)]
    rw [e]
    clear e
    go_enter Tryz.func25, Tryz.ntmps25
    go_upto_region 1 with fail
    rw [← Hg.out] at hz0 ⊢
    generalize w.alloc (.cells #[.int .i64 0, .int .u32 0, .int .u32 0, .int .u32 0, .int .i64 0, .slice none 0 0] 64) = W0 at *
    have hcz := hz0.cell
    have hfz := hz0.frozen
    go_wp2_with fail
    obtain ⟨hB3, hb3⟩ := r4zero hz0 hbz hgw
    clear hcz hfz
    generalize (((((W0.setCell ⟨g, 0, none⟩ _).setCell ⟨g, 1, none⟩ _).setCell ⟨g, 2, none⟩ _).setCell ⟨g, 3, none⟩ _).setCell ⟨g, 4, none⟩ _).setCell ⟨g, 5, none⟩ _ = W3 at *
    have hcz := hB3.cell
    refine bodyPost_ret (v := .tuple #[unitVal .zero (.slice none 0 0), .int .i64 41]) (by simp [results, Tryz.results25, go_sem, unitVal, UnitM.zero, hcz]) rfl ⟨_, rfl, World.ownsRow_nil _ _ _ _, hb3⟩
  obtain ⟨ad, rfl⟩ : ∃ ad, A = some ad := by
    obtain ⟨ad, h, _⟩ := hr.2 (by omega)
    exact ⟨ad, h⟩
  have hadB : ad.block < B := by
    obtain ⟨ad', e, h, _⟩ := hr.2 (by omega)
    injection e with e
    rw [e]
    exact h
  obtain ⟨n', rfl⟩ : ∃ n', n = n' + 19 := ⟨n - 19, by omega⟩
  obtain ⟨p, a0, a1, a2, a3, hl4, hpl⟩ := four_of (n := n' + 15) hl
  have hval := fun (W : World) hr' hb' => rvalid_any ad (n' + 19) (n' + 15) c p a0 a1 a2 a3 B W rfl hpl hr' hb' hc (by omega)
  rw [← hl4] at hval
  clear hl4 hpl
  cases hcrc : (crcOf 0#32 l == 0#32) with
  | false =>
    have hcrc' : crcOf 0#32 l ≠ 0#32 := by simpa using hcrc
    have e : decodeM l = (.zero, 42) := by unfold decodeM; rw [if_neg (by omega), if_neg (by omega), if_pos hcrc']
    rw [e]
    rw [hcrc] at hval
    clear e hcrc' hcrc
    go_enter Tryz.func25, Tryz.ntmps25
    go_wp2_with fail
    refine (hval _ hrz (by omega)).mono ?_
    rintro e W0 ⟨rfl, hbv⟩
    rw [← Hg.out] at hz0 ⊢
    replace hz0 := hz0.below hbv hz0.lt
    replace hbz := hbz.trans (hbv.mono hbz.size)
    clear hbv hrz hval
    have hcz := hz0.cell
    have hfz := hz0.frozen
    go_wp2_with fail
    obtain ⟨hB3, hb3⟩ := r4zero hz0 hbz hgw
    clear hcz hfz
    generalize (((((W0.setCell ⟨g, 0, none⟩ _).setCell ⟨g, 1, none⟩ _).setCell ⟨g, 2, none⟩ _).setCell ⟨g, 3, none⟩ _).setCell ⟨g, 4, none⟩ _).setCell ⟨g, 5, none⟩ _ = W3 at *
    have hcz := hB3.cell
    refine bodyPost_ret (v := .tuple #[unitVal .zero (.slice none 0 0), .int .i64 42]) (by simp [results, Tryz.results25, go_sem, unitVal, UnitM.zero, hcz]) rfl ⟨_, rfl, World.ownsRow_nil _ _ _ _, hb3⟩
  | true =>
    rw [hcrc] at hval
    have hn8 : n' ≤ 8 := by omega
    obtain ⟨dm, Hdm⟩ : ∃ d, Hid (d = decodeM l) := ⟨_, Lib.hid rfl⟩
    obtain ⟨b0, Hb0⟩ : ∃ b, Hid (b = l.getD 0 0) := ⟨_, Lib.hid rfl⟩
    obtain ⟨b13, Hb13⟩ : ∃ b, Hid (b = l.getD 13 0) := ⟨_, Lib.hid rfl⟩
    obtain ⟨b14, Hb14⟩ : ∃ b, Hid (b = l.getD 14 0) := ⟨_, Lib.hid rfl⟩
    rw [← Hdm.out]
    have Hcrc := Lib.hid hcrc
    go_enter Tryz.func25, Tryz.ntmps25
    go_wp2_with fail
    refine (hval _ hrz (by omega)).mono ?_
    rintro e W2 ⟨rfl, hbv⟩
    rw [← Hg.out] at hz0 ⊢
    have hz2 := hz0.below hbv hz0.lt
    have hb2 := hbz.trans (hbv.mono hbz.size)
    have hr2 := hrz.below (hbv.mono (by simp; omega))
    have hs2 := hz2.lt
    clear hbv hrz hval hz0 hbz hr hcrc hs0
    go_upto_region 7 with fail
    have hsW := hb2.size
    go_cut [4] from 18 to 66 (fun v4 wc => ∃ g5, v4 = .pointer (some ⟨g5, 0, none⟩) ∧ g < g5 ∧ Blk wc g5 64 #[.int .i64 (b0.toNat : Int), .int .u32 (numAt l 1), .int .u32 (numAt l 5), .int .u32 (numAt l 9), .int .i64 (b13.toNat : Int), .slice none 0 0] ∧
      Blk wc g 64 #[.int .i64 0, .int .u32 0, .int .u32 0, .int .u32 0, .int .i64 0, .slice none 0 0] ∧ Reads wc B 1 (some ad) (n' + 19) (u8c l) ∧ Below w.heap.size w wc)
    case first =>
      have i0 : (0 : Int) < (n' : Int) + 19 := by omega
      have i13 : (13 : Int) < (n' : Int) + 19 := by omega
      have i1 : (1 : Int) ≤ (n' : Int) + 19 := by omega
      have i5 : (5 : Int) ≤ (n' : Int) + 19 := by omega
      have i9 : (9 : Int) ≤ (n' : Int) + 19 := by omega
      have c1 : ¬ c = 1 := by omega
      have c5 : ¬ c = 5 := by omega
      have c9 : ¬ c = 9 := by omega
      have ic : ((n' : Int) + 19) ≤ (c : Int) := by omega
      have x1 : ∀ W, (Instr.slice 22 (.slice (some ad) (n' + 19) c) (some (.int .i64 1)) (some (.int .i64 5)) none).run Tryz.prog W = .ok (.slice (some ⟨ad.block, ad.off + 1, none⟩) 4 (c - 1)) W := fun W => cut_mid ad 1 5 (n' + 19) c (by omega) (by omega) (by omega) (by omega) W
      have x5 : ∀ W, (Instr.slice 22 (.slice (some ad) (n' + 19) c) (some (.int .i64 5)) (some (.int .i64 9)) none).run Tryz.prog W = .ok (.slice (some ⟨ad.block, ad.off + 5, none⟩) 4 (c - 5)) W := fun W => cut_mid ad 5 9 (n' + 19) c (by omega) (by omega) (by omega) (by omega) W
      have x9 : ∀ W, (Instr.slice 22 (.slice (some ad) (n' + 19) c) (some (.int .i64 9)) (some (.int .i64 13)) none).run Tryz.prog W = .ok (.slice (some ⟨ad.block, ad.off + 9, none⟩) 4 (c - 9)) W := fun W => cut_mid ad 9 13 (n' + 19) c (by omega) (by omega) (by omega) (by omega) W
      have hwr0 : IntKind.i64.wrap (b0.toNat : Int) = (b0.toNat : Int) := by have := b0.toNat_lt; exact IntWalk.i64_in _ (by omega)
      have hwr13 : IntKind.i64.wrap (b13.toNat : Int) = (b13.toNat : Int) := by have := b13.toNat_lt; exact IntWalk.i64_in _ (by omega)
      have hBW0 : B ≤ W2.heap.size := by omega
      have hBW := size_drew hBW0
      have hr0 := hr2
      have hz0 := hz2
      have hb0 := hb2
      replace hr2 := hr2.drew
      replace hz2 := hz2.drew
      replace hb2 := hb2.drew
      have p13 : 13 < n' + 19 := by omega
      go_wp2_with fail
      go_region_held3 (fun w' => w'.cell? ad = some (.int .u8 (b0.toNat : Int)) ∧ w'.cell? ⟨ad.block, ad.off + 13, none⟩ = some (.int .u8 (b13.toNat : Int))) (with_reducible (first | exact hr2.two p13 Hb0 Hb13 | exact (hr2.alloc hBW _).two p13 Hb0 Hb13 | exact (hr0.alloc hBW0 _).drew.two p13 Hb0 Hb13 | exact (hr2.store6 hBN _ _ _ _ _ _).two p13 Hb0 Hb13)) (first
        | (go_at_call 72; refine (r4word_at _ ad (n' + 19) _ _ B l _ ?_ ?_ ?_ ?_).mono ?_; omega; omega; omega; with_reducible exact hr2; rintro e W ⟨rfl, k1, hW⟩; replace hz2 := hz2.same (Same.of hW (Same.refl _)); replace hb2 := below_same hb2 (Same.of hW (Same.refl _)); replace hBW := size_same hBW (Same.of hW (Same.refl _)); (try (replace hN := hN.same (Same.of hW (Same.refl _)); replace hNc := hN.cell; replace hNf := hN.frozen)); replace hr2 := hr2.same (Same.of hW (Same.refl _)); clear hW)
        | (go_at_call 72; refine (r4word_at _ ad (n' + 19) _ _ B l _ ?_ ?_ ?_ ?_).mono ?_; omega; omega; omega; with_reducible exact hr2.alloc hBW _; rintro e W ⟨rfl, k1, hW⟩; have hBN := hBW; have hgN := hz2.lt; have hgW := hb2.size; replace hz2 := (hz2.alloc _).same (Same.of hW (Same.refl _)); replace hb2 := below_same (hb2.alloc hb2.size _) (Same.of hW (Same.refl _)); have hN := (Blk.new _ 64 #[.int .i64 0, .int .u32 0, .int .u32 0, .int .u32 0, .int .i64 0, .slice none 0 0]).same (Same.of hW (Same.refl _)); have hNc := hN.cell; have hNf := hN.frozen; replace hr2 := (hr2.alloc hBW _).same (Same.of hW (Same.refl _)); replace hBW := size_same (size_alloc hBW _) (Same.of hW (Same.refl _)); clear hW)
        | (go_at_call 72; refine (r4word_at _ ad (n' + 19) _ _ B l _ ?_ ?_ ?_ ?_).mono ?_; omega; omega; omega; with_reducible exact (hr0.alloc hBW0 _).drew; rintro e W ⟨rfl, k1, hW⟩; have hBN := hBW0; have hgN := hz0.lt; have hgW := hb0.size; replace hz2 := ((hz0.alloc _).drew).same (Same.of hW (Same.refl _)); replace hb2 := below_same ((hb0.alloc hb0.size _).drew) (Same.of hW (Same.refl _)); have hN := ((Blk.new _ 64 #[.int .i64 0, .int .u32 0, .int .u32 0, .int .u32 0, .int .i64 0, .slice none 0 0]).drew).same (Same.of hW (Same.refl _)); have hNc := hN.cell; have hNf := hN.frozen; replace hr2 := ((hr0.alloc hBW0 _).drew).same (Same.of hW (Same.refl _)); replace hBW := size_same (size_drew (size_alloc hBW0 _)) (Same.of hW (Same.refl _)); clear hW))
      all_goals (go_wp2_with fail; go_meet)
      all_goals first
        | exact ⟨_, rfl, hz2.lt, Blk.new _ _ _, hz2.alloc _, hr2.alloc hBW _, hb2.alloc hb2.size _⟩
        | exact ⟨_, rfl, hgN, hN.store6 _ _ _ _ _ _, hz2.far6 hgN _ _ _ _ _ _, hr2.store6 hBN _ _ _ _ _ _, below_store6 hb2 hgW _ _ _ _ _ _⟩
    case rest =>
      obtain ⟨g5, rfl, hg5, hB5, hz5, hr5, hb5⟩ := hcut
      obtain ⟨W5, rfl⟩ : ∃ W : World, W = wc := ⟨_, rfl⟩
      clear hb2 hr2 hs2 hz2 hsW
      obtain ⟨data, Hdata⟩ : ∃ d, Hid (d = (l.drop 15).take n') := ⟨_, Lib.hid rfl⟩
      have hdl : data.length = n' := by rw [Hdata.out, List.length_take, List.length_drop]; omega
      have hrd : Reads W5 B 1 (some ⟨ad.block, ad.off + 15, none⟩) n' (u8c data) := by
        have := hr5.sub 15 n' (by omega)
        rw [u8c_sub, ← Hdata.out] at this
        exact this
      have h14c : W5.cell? ⟨ad.block, ad.off + 14, none⟩ = some (.int .u8 (b14.toNat : Int)) := by
        have := hr5.byte 14 (by omega)
        rw [← Hb14.out] at this
        exact this
      have Hunit : Hid (unitOf l = ⟨b0.toNat, numAt l 1, numAt l 5, numAt l 9, b13.toNat, data⟩) := Lib.hid (by
        unfold unitOf
        rw [← Hb0.out, ← Hb13.out, Hdata.out, hl, show n' + 19 - 19 = n' by omega])
      have Hdm2 : Hid (dm = (if (if (unitOf l).lawful ≠ 43 ∧ (unitOf l).lawful ≠ 44 ∧ (b14.toNat) ≠ (unitOf l).data.length then 45 else (unitOf l).lawful) ≠ 0 then (.zero, (if (unitOf l).lawful ≠ 43 ∧ (unitOf l).lawful ≠ 44 ∧ (b14.toNat) ≠ (unitOf l).data.length then 45 else (unitOf l).lawful)) else (unitOf l, 0))) := Lib.hid (by
        have hc0 : ¬ crcOf 0#32 l ≠ 0#32 := by have := Hcrc.out; simpa using this
        rw [Hdm.out, Hb14.out]
        unfold decodeM
        rw [if_neg (by omega), if_neg (by omega), if_neg hc0])
      have Hdm3 : Hid (dm = (if (if (UnitM.mk b0.toNat (numAt l 1) (numAt l 5) (numAt l 9) b13.toNat data).lawful ≠ 43 ∧ (UnitM.mk b0.toNat (numAt l 1) (numAt l 5) (numAt l 9) b13.toNat data).lawful ≠ 44 ∧ ¬ b14.toNat = n' then 45 else (UnitM.mk b0.toNat (numAt l 1) (numAt l 5) (numAt l 9) b13.toNat data).lawful) ≠ 0 then (.zero, (if (UnitM.mk b0.toNat (numAt l 1) (numAt l 5) (numAt l 9) b13.toNat data).lawful ≠ 43 ∧ (UnitM.mk b0.toNat (numAt l 1) (numAt l 5) (numAt l 9) b13.toNat data).lawful ≠ 44 ∧ ¬ b14.toNat = n' then 45 else (UnitM.mk b0.toNat (numAt l 1) (numAt l 5) (numAt l 9) b13.toNat data).lawful)) else ((⟨b0.toNat, numAt l 1, numAt l 5, numAt l 9, b13.toNat, data⟩ : UnitM), 0))) := Lib.hid (by
        rw [Hdm2.out, Hunit.out, hdl])
      clear Hdm Hdm2 Hunit Hcrc hr5
      have n1 := numAt_nonneg l 5
      have n2 := numAt_nonneg l 9
      generalize numAt l 1 = q1 at *
      generalize numAt l 5 = q5 at *
      generalize numAt l 9 = q9 at *
      have hlaw := fun A c w => r4lawful_any ⟨b0.toNat, q1, q5, q9, b13.toNat, data⟩ A c w n1 n2
      unfold unitVal at hlaw
      simp only [hdl] at hlaw
      generalize (UnitM.mk b0.toNat q1 q5 q9 b13.toNat data).lawful = law at *
      obtain ⟨i0, hi0, hz0, hz1, hz2⟩ := info_parts byte_info
      have hw14 : IntKind.i64.wrap (b14.toNat : Int) = (b14.toNat : Int) := by have := b14.toNat_lt; exact IntWalk.i64_in _ (by omega)
      have hsz5 := hb5.size
      have hgl := hz5.lt
      have hg5l := hB5.lt
      have Hl := Lib.hid hl
      clear hl
      have hcn : n' + 15 ≤ c := by omega
      have x15 : ∀ W, (Instr.slice 22 (.slice (some ad) (n' + 19) c) (some (.int .i64 15)) (some (.int .i64 ((n' : Int) + 15))) none).run Tryz.prog W = .ok (.slice (some ⟨ad.block, ad.off + 15, none⟩) n' (c - 15)) W := fun W => by
        have := cut_mid ad 15 (n' + 15) (n' + 19) c (by omega) (by omega) hcn (by omega) W
        rw [Nat.add_sub_cancel] at this
        exact this
      go_wp2_with (at_builtin; refine wpList_append_any _ rfl (.tmp 36) (.tmp 41) _ rfl W5.heap.size 5 i0 _ 1 1 Tryz.underlying22 hi0 hz0 hz1 hz2 rfl (by omega) (.slice (some ⟨W5.heap.size, 0, none⟩) 0 0) 0 [] rfl (World.ownsRow_made W5 #[] 0 (Nat.le_refl _) (by unfold maxLen; omega) rfl) B (some ⟨ad.block, ad.off + 15, none⟩) n' (c - 15) (u8c data) rfl (hrd.alloc (by omega) _) (u8c_one _) (by unfold maxLen; omega) (by omega) (by simp) ?_; intro v6 w6 hown6 hg6 hat6; rw [Nat.zero_add, List.nil_append] at hown6; obtain ⟨A6, c6, rfl⟩ := own_slice hown6; have hb6 : Below W5.heap.size W5 w6 := ((Below.refl _ _).alloc (Nat.le_refl _) _).grown hg6 (by simp) (fun k hk => by simp [Value.ownBlock] at hk; omega); have hB6 := hB5.below hb6 hg5l; have hz6 := hz5.below hb6 hgl; have hc6 := hB6.cell; have hf6 := hB6.frozen)
      refine (hlaw _ _ _).mono ?_
      rintro e W7 ⟨rfl, hb7⟩
      have hB7 : Blk W7 g5 64 #[.int .i64 (b0.toNat : Int), .int .u32 q1, .int .u32 q5, .int .u32 q9, .int .i64 (b13.toNat : Int), .slice A6 n' c6] := by
        have := (hB6.set_ 5 (.slice A6 n' c6)).below hb7 (hB6.set_ 5 _).lt
        simpa using this
      have hz7 := (hz6.far (p := ⟨g5, 5, none⟩) (Nat.ne_of_lt hg5) (.slice A6 n' c6)).below hb7 (hz6.far (p := ⟨g5, 5, none⟩) (Nat.ne_of_lt hg5) _).lt
      have hb6' := hb5.trans (hb6.mono hsz5)
      have hb7' : Below w.heap.size w W7 := (hb6'.setCell (p := ⟨g5, 5, none⟩) (by simp; omega) (.slice A6 n' c6)).trans (hb7.mono (by simp [World.setCell]; exact hb6'.size))
      have hown7 : W7.ownsRow W5.heap.size 5 1 (.slice A6 n' c6) n' (u8c data) := by
        refine own_below (own_far hown6 (g := g5) (fun h => ?_) 5 _) hb7
        have := (hown6.lt _ h).1
        omega
      have h14d : W7.cell? ⟨ad.block, ad.off + 14, none⟩ = some (.int .u8 (b14.toNat : Int)) :=
        ((hb7'.cell (p := ⟨ad.block, ad.off + 14, none⟩) (Nat.lt_of_lt_of_le hadB hB)).trans (hb5.cell (p := ⟨ad.block, ad.off + 14, none⟩) (Nat.lt_of_lt_of_le hadB hB)).symm).trans h14c
      have hlt6 := hown6.lt
      have hc7 := hB7.cell
      have hz7c := hz7.cell
      have hf7 := hz7.frozen
      have i14 : (14 : Int) < (n' : Int) + 19 := by omega
      clear hb7 hB6 hz6 hb6 hb6' hown6 hlaw h14c hc6 hf6 hg6 hat6 hrd x15 hB5 hz5
      by_cases x43 : law = 43
      · subst x43
        go_wp2_with fail
        go_big_quiet (fail)
        have hq7 := hz7.drewN nq
        have hbq := belowN hb7' nq
        generalize W7.drewN nq = W8 at *
        clear hc7 hz7c hf7 h14d
        have hcz := hq7.cell
        have hcf := hq7.frozen
        go_wp2_with fail
        obtain ⟨hB9, hb9⟩ := r4zero hq7 hbq hgw
        clear hcz hcf
        generalize (((((W8.setCell ⟨g, 0, none⟩ _).setCell ⟨g, 1, none⟩ _).setCell ⟨g, 2, none⟩ _).setCell ⟨g, 3, none⟩ _).setCell ⟨g, 4, none⟩ _).setCell ⟨g, 5, none⟩ _ = W9 at *
        have hc9 := hB9.cell
        have hdm : dm = (.zero, 43) := by rw [Hdm3.out]; simp
        subst hdm
        refine bodyPost_ret (v := .tuple #[unitVal .zero (.slice none 0 0), .int .i64 43]) (by simp [results, Tryz.results25, go_sem, unitVal, UnitM.zero, hc9]) rfl ⟨_, rfl, World.ownsRow_nil _ _ _ _, hb9⟩
      have g43 : (law != 43) = true := by simpa using x43
      by_cases x44 : law = 44
      · subst x44
        go_wp2_with fail
        go_big_quiet (fail)
        have hq7 := hz7.drewN nq
        have hbq := belowN hb7' nq
        generalize W7.drewN nq = W8 at *
        clear hc7 hz7c hf7 h14d
        have hcz := hq7.cell
        have hcf := hq7.frozen
        go_wp2_with fail
        obtain ⟨hB9, hb9⟩ := r4zero hq7 hbq hgw
        clear hcz hcf
        generalize (((((W8.setCell ⟨g, 0, none⟩ _).setCell ⟨g, 1, none⟩ _).setCell ⟨g, 2, none⟩ _).setCell ⟨g, 3, none⟩ _).setCell ⟨g, 4, none⟩ _).setCell ⟨g, 5, none⟩ _ = W9 at *
        have hc9 := hB9.cell
        have hdm : dm = (.zero, 44) := by rw [Hdm3.out]; simp
        subst hdm
        refine bodyPost_ret (v := .tuple #[unitVal .zero (.slice none 0 0), .int .i64 44]) (by simp [results, Tryz.results25, go_sem, unitVal, UnitM.zero, hc9]) rfl ⟨_, rfl, World.ownsRow_nil _ _ _ _, hb9⟩
      have g44 : (law != 44) = true := by simpa using x44
      by_cases h14 : b14.toNat = n'
      · have hq14 : ((b14.toNat : Int) == (n' : Int)) = true := by simp; omega
        have hq14' : ((b14.toNat : Int) != (n' : Int)) = false := by simp; omega
        go_wp2_with fail
        go_big_quiet (fail)
        by_cases hl0 : law = 0
        · subst hl0
          have hq7 := hz7.drewN nq
          have hB7q := hB7.drewN nq
          have hbq := belowN hb7' nq
          have hownq := own_below hown7 (belowN (Below.refl W7.heap.size W7) nq)
          generalize W7.drewN nq = W8 at *
          clear hc7 hz7c hf7 h14d
          have hcz := hq7.cell
          have hcf := hq7.frozen
          have hc7 := hB7q.cell
          go_wp2_with fail
          have hB9 := hq7.store6 (.int .i64 (b0.toNat : Int)) (.int .u32 q1) (.int .u32 q5) (.int .u32 q9) (.int .i64 (b13.toNat : Int)) (.slice A6 n' c6)
          have hb9 := below_store6 hbq hgw (.int .i64 (b0.toNat : Int)) (.int .u32 q1) (.int .u32 q5) (.int .u32 q9) (.int .i64 (b13.toNat : Int)) (.slice A6 n' c6)
          have hfar : (Value.slice A6 n' c6).ownBlock ≠ some g := fun h => by have := (hlt6 g h).1; omega
          have hown9 := own_far (own_far (own_far (own_far (own_far (own_far hownq hfar 0 (.int .i64 (b0.toNat : Int))) hfar 1 (.int .u32 q1)) hfar 2 (.int .u32 q5)) hfar 3 (.int .u32 q9)) hfar 4 (.int .i64 (b13.toNat : Int))) hfar 5 (.slice A6 n' c6)
          clear hcz hcf hc7
          generalize (((((W8.setCell ⟨g, 0, none⟩ _).setCell ⟨g, 1, none⟩ _).setCell ⟨g, 2, none⟩ _).setCell ⟨g, 3, none⟩ _).setCell ⟨g, 4, none⟩ _).setCell ⟨g, 5, none⟩ _ = W9 at *
          have hc9 := hB9.cell
          have hdm : dm = (⟨b0.toNat, q1, q5, q9, b13.toNat, data⟩, 0) := by rw [Hdm3.out]; simp [h14]
          subst hdm
          refine bodyPost_ret (v := .tuple #[unitVal ⟨b0.toNat, q1, q5, q9, b13.toNat, data⟩ (.slice A6 n' c6), .int .i64 0]) (by simp [results, Tryz.results25, go_sem, unitVal, hc9]) rfl ⟨_, rfl, ?_, hb9⟩
          simp only [hdl]
          exact own_base hown9 hsz5
        · have hl0' : (law != 0) = true := by simpa using hl0
          have hq7 := hz7.drewN nq
          have hbq := belowN hb7' nq
          generalize W7.drewN nq = W8 at *
          clear hc7 hz7c hf7 h14d
          have hcz := hq7.cell
          have hcf := hq7.frozen
          go_wp2_with fail
          obtain ⟨hB9, hb9⟩ := r4zero hq7 hbq hgw
          clear hcz hcf
          generalize (((((W8.setCell ⟨g, 0, none⟩ _).setCell ⟨g, 1, none⟩ _).setCell ⟨g, 2, none⟩ _).setCell ⟨g, 3, none⟩ _).setCell ⟨g, 4, none⟩ _).setCell ⟨g, 5, none⟩ _ = W9 at *
          have hc9 := hB9.cell
          have hdm : dm = (.zero, law) := by rw [Hdm3.out]; simp [h14, hl0]
          subst hdm
          refine bodyPost_ret (v := .tuple #[unitVal .zero (.slice none 0 0), .int .i64 law]) (by simp [results, Tryz.results25, go_sem, unitVal, UnitM.zero, hc9]) rfl ⟨_, rfl, World.ownsRow_nil _ _ _ _, hb9⟩
      · have hq14 : ((b14.toNat : Int) == (n' : Int)) = false := by simp; omega
        have hq14' : ((b14.toNat : Int) != (n' : Int)) = true := by simp; omega
        go_wp2_with fail
        go_big_quiet (fail)
        have hq7 := hz7.drewN nq
        have hbq := belowN hb7' nq
        generalize W7.drewN nq = W8 at *
        clear hc7 hz7c hf7 h14d
        have hcz := hq7.cell
        have hcf := hq7.frozen
        go_wp2_with fail
        obtain ⟨hB9, hb9⟩ := r4zero hq7 hbq hgw
        clear hcz hcf
        generalize (((((W8.setCell ⟨g, 0, none⟩ _).setCell ⟨g, 1, none⟩ _).setCell ⟨g, 2, none⟩ _).setCell ⟨g, 3, none⟩ _).setCell ⟨g, 4, none⟩ _).setCell ⟨g, 5, none⟩ _ = W9 at *
        have hc9 := hB9.cell
        have hdm : dm = (.zero, 45) := by rw [Hdm3.out]; simp [x43, x44, h14]
        subst hdm
        refine bodyPost_ret (v := .tuple #[unitVal .zero (.slice none 0 0), .int .i64 45]) (by simp [results, Tryz.results25, go_sem, unitVal, UnitM.zero, hc9]) rfl ⟨_, rfl, World.ownsRow_nil _ _ _ _, hb9⟩
end Go.Proofs.YtlldgfejcjnpkaaGreat
