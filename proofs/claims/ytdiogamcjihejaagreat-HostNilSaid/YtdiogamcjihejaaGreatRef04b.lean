/- The reference's Encode (parapetref04). -/
import Derived.Test.YtdiogamcjihejaaGreatRef04a
import Derived.Test.YtdiogamcjihejaaGreatUnitB
namespace Go.Proofs.YtdiogamcjihejaaGreat
open Go.RowKit
set_option maxHeartbeats 10000000
set_option maxRecDepth 100000

theorem r4encode_any (u : UnitM) (A : Option Addr) (c B : Nat) (w : World) (ho : u.Ok) (hr : Reads w B 1 A u.data.length (u8c u.data)) (hB : B ≤ w.heap.size) :
    Calls Tryz.prog 95 #[unitVal u (.slice A u.data.length c)] w fun e w' => ∃ v, e = .returned (.tuple #[v, .int .i64 u.lawful]) ∧ w'.ownsRow w.heap.size 5 1 v u.encode.length (u8c u.encode) ∧ Below w.heap.size w w' := by
  obtain ⟨i0, hi0, hz0, hz1, hz2⟩ := info_parts byte_info
  have hlaw := fun w => r4lawful_any u A c w ho.session.1 ho.number.1
  have hlen := @UnitM.lawful_len u
  obtain ⟨code, hcode⟩ := word_ex ho.code
  obtain ⟨session, hsession⟩ := word_ex ho.session
  obtain ⟨number, hnumber⟩ := word_ex ho.number
  have henc : u.encode = if u.lawful = 0 then sealM (([byteOf u.kind] ++ wordOf code ++ wordOf session ++ wordOf number ++ [byteOf u.flags, byteOf u.data.length]) ++ u.data) else [] := by
    unfold UnitM.encode UnitM.body
    rw [hcode, hsession, hnumber, wordBytes_nat, wordBytes_nat, wordBytes_nat]
  obtain ⟨enc, he⟩ : ∃ enc, enc = u.encode := ⟨_, rfl⟩
  rw [← he]
  rw [← he] at henc
  clear he
  generalize u.lawful = law at *
  obtain ⟨kind, code', session', number', flags, data⟩ := u
  simp only at *
  subst hcode hsession hnumber
  unfold unitVal at *
  simp only at *
  have Henc := Lib.hid henc
  clear henc ho
  go_enter Tryz.func95, Tryz.ntmps95
  go_wp2_with fail
  refine (hlaw _).mono ?_
  rintro e w1 ⟨rfl, hb1⟩
  have hb1' : Below w.heap.size w w1 := ((Below.refl _ _).alloc (Nat.le_refl _) _).trans (hb1.mono (by simp))
  by_cases hl : law = 0
  · subst hl
    have hd8 := hlen rfl
    have hB1 := (Blk.new w 60 #[Value.int .i64 kind, u32v code, u32v session, u32v number, .int .i64 flags, .slice A data.length c]).below hb1 (by simp)
    clear hb1 hlen hlaw
    have hc1 : ∀ i, w1.cell? ⟨w.heap.size, i, none⟩ = (#[Value.int .i64 kind, u32v code, u32v session, u32v number, .int .i64 flags, .slice A data.length c] : Array Value)[i]? := hB1.cell
    have hr1 := hr.below (hb1'.mono hB)
    have hn1 := hb1'.size
    have hlt1 := hB1.lt
    have hBl : B ≤ w1.heap.size := by omega
    have hkind : (u8c [byteOf kind]).toArray = #[Value.int .u8 (kind % 256)] := by simp [u8c, byteOf_val]
    have hown : (w1.alloc (.cells #[Value.int .u8 (kind % 256)] 5)).ownsRow w1.heap.size 5 1 (.slice (some ⟨w1.heap.size, 0, none⟩) 1 1) 1 (u8c [byteOf kind]) := by
      have := own_full w1 #[Value.int .u8 (kind % 256)] 5 w1.heap.size (Nat.le_refl _) (by simp [maxLen])
      rw [← hkind] at this ⊢
      exact this
    have hbW : Below w.heap.size w (w1.alloc (.cells #[Value.int .u8 (kind % 256)] 5)) := hb1'.alloc hn1 _
    have hsz : w1.heap.size ≤ (w1.alloc (.cells #[Value.int .u8 (kind % 256)] 5)).heap.size := by simp
    replace hB1 := hB1.alloc (.cells #[Value.int .u8 (kind % 256)] 5)
    replace hr1 := hr1.alloc hBl (.cells #[Value.int .u8 (kind % 256)] 5)
    clear hb1' hkind hr
    go_wp2_with fail
    clear hc1
    refine (rword_any code _).mono ?_
    rintro e w1a ⟨v1a, rfl, hw, hb⟩
    obtain ⟨Aw1, cw1, rfl⟩ := own_slice hw
    replace hB1 := hB1.below hb hB1.lt
    replace hr1 := hr1.below (hb.mono (Nat.le_trans hBl hsz))
    replace hbW := hbW.trans (hb.mono hbW.size)
    replace hown := own_below hown hb
    replace hsz := Nat.le_trans hsz hb.size
    have hlt1 := hown.lt
    clear hb
    go_wp2_with (at_builtin; refine wpList_append_any _ rfl (.tmp 15) (.tmp 18) _ rfl w1.heap.size 5 i0 _ 1 1 Tryz.underlying22 hi0 hz0 hz1 hz2 rfl (by omega) (.slice (some ⟨w1.heap.size, 0, none⟩) 1 1) 1 (u8c [byteOf kind]) rfl hown w1a.heap.size Aw1 4 cw1 (u8c (wordOf code)) rfl (Reads.of_own hw) (u8c_one _) (by unfold maxLen; omega) (by omega) hsz ?_; intro v1b w1b hownN hg hat; rw [← u8c_append] at hownN; simp only [Nat.reduceAdd] at hownN; obtain ⟨A1s, c1s, rfl⟩ := own_slice hownN; clear hown; have hown := hownN; clear hownN; have hBn := hB1.grown hg (fun h => by have := (hlt1 _ h).1; omega); clear hB1; have hB1 := hBn; clear hBn; have hc1 := hB1.cell; have hrn := hr1.grown hg (Nat.le_trans hBl hsz) (fun g h => by have := (hlt1 g h).1; omega); clear hr1; have hr1 := hrn; clear hrn; have hbn := hbW.grown hg hbW.size (fun g h => by have := (hlt1 g h).1; omega); clear hbW; have hbW := hbn; clear hbn; have hsn := Nat.le_trans hsz hg.size; clear hsz; have hsz := hsn; clear hsn hg hat)
    clear hc1
    refine (rword_any session _).mono ?_
    rintro e w2a ⟨v2a, rfl, hw, hb⟩
    obtain ⟨Aw2, cw2, rfl⟩ := own_slice hw
    replace hB1 := hB1.below hb hB1.lt
    replace hr1 := hr1.below (hb.mono (Nat.le_trans hBl hsz))
    replace hbW := hbW.trans (hb.mono hbW.size)
    replace hown := own_below hown hb
    replace hsz := Nat.le_trans hsz hb.size
    have hlt2 := hown.lt
    clear hb
    go_wp2_with (at_builtin; refine wpList_append_any _ rfl (.tmp 20) (.tmp 23) _ rfl w1.heap.size 5 i0 _ 1 1 Tryz.underlying22 hi0 hz0 hz1 hz2 rfl (by omega) (.slice A1s 5 c1s) 5 (u8c ([byteOf kind] ++ wordOf code)) rfl hown w2a.heap.size Aw2 4 cw2 (u8c (wordOf session)) rfl (Reads.of_own hw) (u8c_one _) (by unfold maxLen; omega) (by omega) hsz ?_; intro v2b w2b hownN hg hat; rw [← u8c_append] at hownN; simp only [Nat.reduceAdd] at hownN; obtain ⟨A2s, c2s, rfl⟩ := own_slice hownN; clear hown; have hown := hownN; clear hownN; have hBn := hB1.grown hg (fun h => by have := (hlt2 _ h).1; omega); clear hB1; have hB1 := hBn; clear hBn; have hc2 := hB1.cell; have hrn := hr1.grown hg (Nat.le_trans hBl hsz) (fun g h => by have := (hlt2 g h).1; omega); clear hr1; have hr1 := hrn; clear hrn; have hbn := hbW.grown hg hbW.size (fun g h => by have := (hlt2 g h).1; omega); clear hbW; have hbW := hbn; clear hbn; have hsn := Nat.le_trans hsz hg.size; clear hsz; have hsz := hsn; clear hsn hg hat)
    clear hc2
    refine (rword_any number _).mono ?_
    rintro e w3a ⟨v3a, rfl, hw, hb⟩
    obtain ⟨Aw3, cw3, rfl⟩ := own_slice hw
    replace hB1 := hB1.below hb hB1.lt
    replace hr1 := hr1.below (hb.mono (Nat.le_trans hBl hsz))
    replace hbW := hbW.trans (hb.mono hbW.size)
    replace hown := own_below hown hb
    replace hsz := Nat.le_trans hsz hb.size
    have hlt3 := hown.lt
    clear hb
    go_wp2_with (first
      | (at_builtin; refine wpList_append_any _ rfl (.tmp 25) (.tmp 28) _ rfl w1.heap.size 5 i0 _ 1 1 Tryz.underlying22 hi0 hz0 hz1 hz2 rfl (by omega) (.slice A2s 9 c2s) 9 (u8c ([byteOf kind] ++ wordOf code ++ wordOf session)) rfl hown w3a.heap.size Aw3 4 cw3 (u8c (wordOf number)) rfl (Reads.of_own hw) (u8c_one _) (by unfold maxLen; omega) (by omega) hsz ?_; intro v3b w3b hownN hg hat; rw [← u8c_append] at hownN; simp only [Nat.reduceAdd] at hownN; obtain ⟨A3s, c3s, rfl⟩ := own_slice hownN; clear hown; have hown := hownN; clear hownN; have hBn := hB1.grown hg (fun h => by have := (hlt3 _ h).1; omega); clear hB1; have hB1 := hBn; clear hBn; have hc3 := hB1.cell; have hrn := hr1.grown hg (Nat.le_trans hBl hsz) (fun g h => by have := (hlt3 g h).1; omega); clear hr1; have hr1 := hrn; clear hrn; have hbn := hbW.grown hg hbW.size (fun g h => by have := (hlt3 g h).1; omega); clear hbW; have hbW := hbn; clear hbn; have hsn := Nat.le_trans hsz hg.size; clear hsz; have hsz := hsn; clear hsn hg hat)
      | (at_builtin; refine wpList_append_any _ rfl (.tmp 30) (.tmp 38) _ rfl w1.heap.size 5 i0 _ 1 1 Tryz.underlying22 hi0 hz0 hz1 hz2 rfl (by omega) (.slice A3s 13 c3s) 13 (u8c ([byteOf kind] ++ wordOf code ++ wordOf session ++ wordOf number)) rfl (hown.alloc _) (w3b.heap.size + 1) (some ⟨w3b.heap.size, 0, none⟩) 2 2 (u8c [byteOf flags, byteOf data.length]) rfl (by simpa using two_reads (by omega) (Blk.new w3b 5 _)) (u8c_one _) (by unfold maxLen; omega) (by omega) (by simp; omega) ?_; intro v4 w4 hown4 hg4 hat4; have hlt3b := hown.lt; have hB4 := (hB1.alloc _).grown hg4 (fun h => by have := (hlt3b _ h).1; omega); have hc4 := hB4.cell; have hr4 := (hr1.alloc (by omega) _).grown hg4 (by simp; omega) (fun g h => by have := (hlt3b g h).1; omega); have hs4 := hg4.size; have hlt4 := hown4.lt; have hbW4 := (hbW.alloc hbW.size _).grown hg4 (by have := hbW.size; simp; omega) (fun k hk => by have := (hlt3b k hk).1; omega); rw [← u8c_append] at hown4; simp only [Nat.reduceAdd] at hown4; obtain ⟨A4, c4, rfl⟩ := own_slice hown4)
      | (at_builtin; refine wpList_append_any _ rfl (.tmp 40) (.tmp 42) _ rfl w1.heap.size 5 i0 _ 1 1 Tryz.underlying22 hi0 hz0 hz1 hz2 rfl (by omega) (.slice A4 15 c4) 15 _ rfl hown4 B A data.length c (u8c data) rfl hr4 (u8c_one _) (by unfold maxLen; omega) (by omega) (by simp at hs4; omega) ?_; intro v5 w5 hown5 hg5 hat5; have hbW5 := hbW4.grown hg5 (by simp at hs4; omega) (fun k hk => by have := (hlt4 k hk).1; omega); rw [← u8c_append] at hown5; obtain ⟨A5, c5, rfl⟩ := own_slice hown5))
    have hw5 := hbW5.size
    refine (rseal_any A5 _ c5 _ w5.heap.size w5 (Reads.of_own hown5) (Nat.le_refl _) (by omega)).mono ?_
    rintro e w6 ⟨v6, rfl, hown6, hb6⟩
    go_wp2_with fail
    refine bodyPost_ret (v := .tuple #[v6, .int .i64 0]) (by simp [results, Tryz.results95, go_sem]) rfl ⟨_, rfl, ?_, hbW5.trans (hb6.mono hw5)⟩
    rw [Henc.out, if_pos trivial]
    have hlen : (sealM ([byteOf kind] ++ wordOf code ++ wordOf session ++ wordOf number ++ [byteOf flags, byteOf data.length] ++ data)).length = 15 + data.length + 4 := by
      simp [sealM, wordOf]; omega
    rw [hlen]
    exact own_base hown6 hw5
  · have g1 : (law != 0) = true := by simpa using hl
    have hnil : enc = [] := by rw [Henc.out, if_neg hl]
    subst hnil
    go_wp2_with fail
    refine bodyPost_ret (v := .tuple #[.slice none 0 0, .int .i64 law]) (by simp [results, Tryz.results95, go_sem]) rfl ⟨_, rfl, World.ownsRow_nil _ _ _ _, hb1'⟩
end Go.Proofs.YtdiogamcjihejaaGreat
