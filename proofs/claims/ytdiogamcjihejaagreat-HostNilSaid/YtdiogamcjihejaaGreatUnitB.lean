/- unit.Encode and unit.Decode by their contracts. -/
import Derived.Test.YtdiogamcjihejaaGreatUnitA
import Derived.Test.YtdiogamcjihejaaGreatOwnKit
import Derived.Deep.RegionHeld3
namespace Go.Proofs.YtdiogamcjihejaaGreat
open Go.RowKit
set_option maxHeartbeats 10000000
set_option maxRecDepth 100000

theorem byteOf_val (n : Int) : ((byteOf n).toNat : Int) = n % 256 := by
  unfold byteOf UInt8.toNat
  simp [BitVec.toNat_ofInt]
  omega
theorem word_ex {n : Int} (h : 0 ≤ n ∧ n < 4294967296) : ∃ s : BitVec 32, n = (s.toNat : Int) := ⟨BitVec.ofInt 32 n, by simp [BitVec.toNat_ofInt]; omega⟩
theorem wordBytes_nat (s : BitVec 32) : wordBytes (s.toNat : Int) = wordOf s := by unfold wordBytes; rw [ofInt_nat]
/-- The numbers of a unit are in range. -/
structure UnitM.Ok (u : UnitM) : Prop where
  code : 0 ≤ u.code ∧ u.code < 4294967296
  session : 0 ≤ u.session ∧ u.session < 4294967296
  number : 0 ≤ u.number ∧ u.number < 4294967296
theorem UnitM.lawful_len {u : UnitM} (h : u.lawful = 0) : u.data.length ≤ 8 := by
  unfold UnitM.lawful at h
  split at h
  · cases h
  split at h
  · cases h
  split at h
  · cases h
  rename_i h1 _
  have h2 : dataOk u.kind u.data.length = true := by simpa using ‹¬ (!dataOk u.kind u.data.length) = true›
  unfold dataOk at h2
  split at h2
  · simp at h2; omega
  split at h2
  · simp at h2; omega
  · simp at h2; simp [h2]
theorem two_reads {w : World} {g : Nat} {t : TypeId} {a : Int} {n : Nat} (hn : n < 256) (h : Blk w g t #[Value.int .u8 (a % 256), .int .u8 (n : Int)]) : Reads w w.heap.size 1 (some ⟨g, 0, none⟩) 2 (u8c [byteOf a, byteOf n]) := by
  have hr := Reads.of_blk h (B := w.heap.size) (size := 1) (n := 2) h.lt rfl
  have e : u8c [byteOf a, byteOf n] = #[Value.int .u8 (a % 256), .int .u8 (n : Int)].toList := by
    simp only [u8c, List.map_cons, List.map_nil, byteOf_val]
    rw [show (n : Int) % 256 = n by omega]
  rw [e]
  exact hr
theorem unitEncode_any (u : UnitM) (A : Option Addr) (c B : Nat) (w : World) (ho : u.Ok) (hr : Reads w B 1 A u.data.length (u8c u.data)) (hB : B ≤ w.heap.size) :
    Calls Tryz.prog 131 #[unitVal u (.slice A u.data.length c)] w fun e w' => ∃ v, e = .returned (.tuple #[v, .int .i64 u.lawful]) ∧ w'.ownsRow w.heap.size 5 1 v u.encode.length (u8c u.encode) ∧ Below w.heap.size w w' := by
  obtain ⟨i0, hi0, hz0, hz1, hz2⟩ := info_parts byte_info
  have hlaw := fun w => unitLawful_any u A c w ho.session.1 ho.number.1
  have hlen := @UnitM.lawful_len u
  obtain ⟨code, hcode⟩ := word_ex ho.code
  obtain ⟨session, hsession⟩ := word_ex ho.session
  obtain ⟨number, hnumber⟩ := word_ex ho.number
  have henc : u.encode = if u.lawful = 0 then sealM (([byteOf u.kind] ++ wordOf code ++ wordOf session ++ wordOf number ++ [byteOf u.flags, byteOf u.data.length]) ++ u.data) else [] := by
    unfold UnitM.encode UnitM.body
    rw [hcode, hsession, hnumber, wordBytes_nat, wordBytes_nat, wordBytes_nat]
  obtain ⟨enc, he⟩ : ∃ enc, enc = u.encode := ⟨_, rfl⟩
  rw [← he]
  rw [← he] at henc
  clear he
  generalize u.lawful = law at *
  obtain ⟨kind, code', session', number', flags, data⟩ := u
  simp only at *
  subst hcode hsession hnumber
  unfold unitVal at *
  simp only at *
  have Henc := Lib.hid henc
  clear henc ho
  go_enter Tryz.func131, Tryz.ntmps131
  go_wp2_with fail
  refine (hlaw _).mono ?_
  rintro e w1 ⟨rfl, hb1⟩
  have hb1' : Below w.heap.size w w1 := ((Below.refl _ _).alloc (Nat.le_refl _) _).trans (hb1.mono (by simp))
  by_cases hl : law = 0
  · subst hl
    have hd8 := hlen rfl
    have hB1 := (Blk.new w 60 #[Value.int .i64 kind, u32v code, u32v session, u32v number, .int .i64 flags, .slice A data.length c]).below hb1 (by simp)
    clear hb1 hlen hlaw
    have hc1 : ∀ i, w1.cell? ⟨w.heap.size, i, none⟩ = (#[Value.int .i64 kind, u32v code, u32v session, u32v number, .int .i64 flags, .slice A data.length c] : Array Value)[i]? := hB1.cell
    have hr1 := hr.below (hb1'.mono hB)
    have hn1 := hb1'.size
    have hlt1 := hB1.lt
    have hBl : B ≤ w1.heap.size := by omega
    have hkind : (u8c [byteOf kind]).toArray = #[Value.int .u8 (kind % 256)] := by simp [u8c, byteOf_val]
    have hown : (w1.alloc (.cells #[Value.int .u8 (kind % 256)] 5)).ownsRow w1.heap.size 5 1 (.slice (some ⟨w1.heap.size, 0, none⟩) 1 1) 1 (u8c [byteOf kind]) := by
      have := own_full w1 #[Value.int .u8 (kind % 256)] 5 w1.heap.size (Nat.le_refl _) (by simp [maxLen])
      rw [← hkind] at this ⊢
      exact this
    have hbW : Below w.heap.size w (w1.alloc (.cells #[Value.int .u8 (kind % 256)] 5)) := hb1'.alloc hn1 _
    have hsz : w1.heap.size ≤ (w1.alloc (.cells #[Value.int .u8 (kind % 256)] 5)).heap.size := by simp
    replace hB1 := hB1.alloc (.cells #[Value.int .u8 (kind % 256)] 5)
    replace hr1 := hr1.alloc hBl (.cells #[Value.int .u8 (kind % 256)] 5)
    clear hb1' hkind hr
    go_wp2_with fail
    replace hown := own_below hown (Below.refl _ _).drew
    replace hB1 := hB1.drew
    replace hr1 := hr1.drew
    replace hbW := hbW.drew
    go_region_held3 (fun w' => w'.cell? ⟨w.heap.size, 1, none⟩ = some (u32v code) ∧ w'.cell? ⟨w.heap.size, 2, none⟩ = some (u32v session) ∧ w'.cell? ⟨w.heap.size, 3, none⟩ = some (u32v number)) (exact ⟨(hB1.cell 1).trans rfl, (hB1.cell 2).trans rfl, (hB1.cell 3).trans rfl⟩) (first
      | (go_at_call 180; refine (unitPut_any _ _ _ _ w1.heap.size _ hown hsz (by omega)).mono ?_; rintro e W ⟨v, rfl, hown2, hbe⟩; clear hown; have hown := hown2; clear hown2; obtain ⟨Av, cv, rfl⟩ := own_slice hown; replace hsz := Nat.le_trans hsz hbe.size; replace hB1 := hB1.below hbe hlt1; replace hr1 := hr1.below (hbe.mono hBl); replace hbW := hbW.trans (hbe.mono hn1); clear hbe))
    have hcW : ∀ o i, (W.alloc o).cell? ⟨w.heap.size, i, none⟩ = (#[Value.int .i64 kind, u32v code, u32v session, u32v number, .int .i64 flags, .slice A data.length c] : Array Value)[i]? := fun o i => (hB1.alloc o).cell i
    have hcW0 : ∀ i, W.cell? ⟨w.heap.size, i, none⟩ = (#[Value.int .i64 kind, u32v code, u32v session, u32v number, .int .i64 flags, .slice A data.length c] : Array Value)[i]? := hB1.cell
    have hltW := hown.lt
    have hws := hbW.size
    clear hc1
    go_wp2_with (first
      | (at_builtin; refine wpList_append_any _ rfl (.tmp 25) (.tmp 33) _ rfl w1.heap.size 5 i0 _ 1 1 Tryz.underlying22 hi0 hz0 hz1 hz2 rfl (by omega) (.slice Av 13 cv) 13 (u8c ([byteOf kind] ++ wordOf code ++ wordOf session ++ wordOf number)) rfl (hown.alloc _) (W.heap.size + 1) (some ⟨W.heap.size, 0, none⟩) 2 2 (u8c [byteOf flags, byteOf data.length]) rfl (by simpa using two_reads (by omega) (Blk.new W 5 _)) (u8c_one _) (by unfold maxLen; omega) (by omega) (by simp; omega) ?_; intro v2 w2 hown2 hg2 hat2; have hB2 := (hB1.alloc _).grown hg2 (fun h => by have := (hltW _ h).1; omega); have hc2 := hB2.cell; have hr2 := (hr1.alloc (by omega) _).grown hg2 (by simp; omega) (fun g h => by have := (hltW g h).1; omega); have hs2 := hg2.size; have hlt2 := hown2.lt; have hbW2 := (hbW.alloc hws _).grown hg2 (by simp; omega) (fun k hk => by have := (hltW k hk).1; omega); rw [← u8c_append] at hown2)
      | (at_builtin; refine wpList_append_any _ rfl (.tmp 35) (.tmp 37) _ rfl w1.heap.size 5 i0 _ 1 1 Tryz.underlying22 hi0 hz0 hz1 hz2 rfl (by omega) _ 15 _ rfl hown2 B A data.length c (u8c data) rfl hr2 (u8c_one _) (by unfold maxLen; omega) (by omega) (by simp at hs2; omega) ?_; intro v3 w3 hown3 hg3 hat3; have hbW3 := hbW2.grown hg3 (by simp at hs2; omega) (fun k hk => by have := (hlt2 k hk).1; omega); rw [← u8c_append] at hown3; obtain ⟨A3, c3, rfl⟩ := own_slice hown3))
    have hw3 := hbW3.size
    refine (crcSeal_any A3 _ c3 _ w3.heap.size w3 (fun h => ?_) (Reads.of_own hown3) (Nat.le_refl _) (by omega)).mono ?_
    · subst h
      rcases hown3.2 with ⟨hx, _⟩ | ⟨_, _, _, hx, _⟩
      · injection hx
      · injection hx with hx; cases hx
    rintro e w4 ⟨v4, rfl, hown4, hb4⟩
    go_wp2_with fail
    refine bodyPost_ret (v := .tuple #[v4, .int .i64 0]) (by simp [results, Tryz.results131, go_sem]) rfl ⟨_, rfl, ?_, hbW3.trans (hb4.mono hw3)⟩
    rw [Henc.out, if_pos trivial]
    have hlen : (sealM ([byteOf kind] ++ wordOf code ++ wordOf session ++ wordOf number ++ [byteOf flags, byteOf data.length] ++ data)).length = 15 + data.length + 4 := by
      simp [sealM, wordOf]; omega
    rw [hlen]
    exact own_base hown4 hw3
  · have g1 : (law != 0) = true := by simpa using hl
    have hnil : enc = [] := by rw [Henc.out, if_neg hl]
    subst hnil
    go_wp2_with fail
    refine bodyPost_ret (v := .tuple #[.slice none 0 0, .int .i64 law]) (by simp [results, Tryz.results131, go_sem]) rfl ⟨_, rfl, World.ownsRow_nil _ _ _ _, hb1'⟩
end Go.Proofs.YtdiogamcjihejaaGreat
