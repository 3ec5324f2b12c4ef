/- The base of the laws, part 7: contracts and plain lemmas, no statement. -/
import Derived.Test.YtbkkfkbgcklkgaaGreatBase6
/- The reference's units (parapetref04): Word, Host, Device, data, Lawful. -/
namespace Go.Proofs.YtbkkfkbgcklkgaaGreat
open Go.RowKit
set_option maxHeartbeats 4000000
set_option maxRecDepth 100000

theorem r4word_any (ad : Addr) (n c : Nat) (b0 b1 b2 b3 : UInt8) (w : World) (hn : 4 ≤ n) (h0 : w.cell? (ad.add 0) = some (.int .u8 (b0.toNat : Int))) (h1 : w.cell? (ad.add 1) = some (.int .u8 (b1.toNat : Int)))
    (h2 : w.cell? (ad.add 2) = some (.int .u8 (b2.toNat : Int))) (h3 : w.cell? (ad.add 3) = some (.int .u8 (b3.toNat : Int))) :
    Calls Tryz.prog 71 #[.slice (some ad) n c] w fun e w' => e = .returned (u32v (ofWord b0 b1 b2 b3)) ∧ ∃ k, w' = w.drewN k := by
  have g0 : (0 : Int) < n := by omega
  have g1 : (1 : Int) < n := by omega
  have g2 : (2 : Int) < n := by omega
  have g3 : (3 : Int) < n := by omega
  rw [show ad.add 0 = ad from rfl] at h0
  rw [show ad.add 1 = ⟨ad.block, ad.off + 1, none⟩ from rfl] at h1
  rw [show ad.add 2 = ⟨ad.block, ad.off + 2, none⟩ from rfl] at h2
  rw [show ad.add 3 = ⟨ad.block, ad.off + 3, none⟩ from rfl] at h3
  go_enter Tryz.func71, Tryz.ntmps71
  go_wp2_with fail
  go_big_quiet (fail)
  go_wp2_with fail
  go_ret
  refine ⟨?_, _, rfl⟩
  exact congrArg (fun x => Ending.returned (Value.int .u32 x)) (get_word b0 b1 b2 b3)
theorem r4host_any (k : Int) (w : World) : Calls Tryz.prog 51 #[.int .i64 k] w fun e w' => e = .returned (.bool (isHost k)) ∧ w' = w := by
  by_cases h1 : 1 ≤ k
  · go_enter Tryz.func51, Tryz.ntmps51
    go_wp2_with fail
    go_ret
    exact ⟨by simp [isHost, h1], rfl⟩
  · go_enter Tryz.func51, Tryz.ntmps51
    go_wp2_with fail
    go_ret
    exact ⟨by simp [isHost]; omega, rfl⟩
theorem r4device_any (k : Int) (w : World) : Calls Tryz.prog 117 #[.int .i64 k] w fun e w' => e = .returned (.bool (isDev k)) ∧ w' = w := by
  by_cases h1 : 17 ≤ k
  · go_enter Tryz.func117, Tryz.ntmps117
    go_wp2_with fail
    go_ret
    exact ⟨by simp [isDev, h1], rfl⟩
  · go_enter Tryz.func117, Tryz.ntmps117
    go_wp2_with fail
    go_ret
    exact ⟨by simp [isDev]; omega, rfl⟩
theorem r4data_any (k : Int) (n : Nat) (w : World) : Calls Tryz.prog 118 #[.int .i64 k, .int .i64 (n : Int)] w fun e w' => e = .returned (.bool (dataOk k n)) ∧ w' = w := by
  have e4 : ((n : Int) == 4) = (n == 4) := by rw [Bool.eq_iff_iff]; simp; omega
  have e0 : ((n : Int) == 0) = (n == 0) := by rw [Bool.eq_iff_iff]; simp
  by_cases h1 : k = 1 ∨ k = 2 ∨ k = 17
  · have e : dataOk k n = (n == 4) := by unfold dataOk; rw [if_pos h1]
    rw [e, ← e4]
    clear e e4 e0
    rcases h1 with rfl | rfl | rfl
    all_goals
      go_enter Tryz.func118, Tryz.ntmps118
      go_wp2_with fail
      go_ret
      exact ⟨rfl, rfl⟩
  by_cases h2 : k = 4 ∨ k = 20
  · have e : dataOk k n = decide (1 ≤ n ∧ n ≤ 8) := by unfold dataOk; rw [if_neg h1, if_pos h2]
    rw [e]
    clear e e4 e0
    rcases h2 with rfl | rfl
    all_goals
      by_cases h3 : 1 ≤ (n : Int)
      · go_enter Tryz.func118, Tryz.ntmps118
        go_wp2_with fail
        go_ret
        refine ⟨?_, rfl⟩
        have h4 : 1 ≤ n := by omega
        refine congrArg (fun x => Ending.returned (Value.bool x)) ?_
        rw [Bool.eq_iff_iff]
        simp [h4]
        try omega
      · go_enter Tryz.func118, Tryz.ntmps118
        go_wp2_with fail
        go_ret
        refine ⟨?_, rfl⟩
        have h4 : ¬ 1 ≤ n := by omega
        simp [h4]
  · have e : dataOk k n = (n == 0) := by unfold dataOk; rw [if_neg h1, if_neg h2]
    rw [e, ← e0]
    simp only [not_or] at h1 h2
    have g1 : (k == 1) = false := by simpa using h1.1
    have g2 : (k == 2) = false := by simpa using h1.2.1
    have g3 : (k == 17) = false := by simpa using h1.2.2
    have g4 : (k == 4) = false := by simpa using h2.1
    have g5 : (k == 20) = false := by simpa using h2.2
    clear e e4 e0 h1 h2
    go_enter Tryz.func118, Tryz.ntmps118
    go_wp2_with fail
    go_ret
    exact ⟨rfl, rfl⟩
theorem r4lawful_any (u : UnitM) (A : Option Addr) (c : Nat) (w : World) (hs : 0 ≤ u.session) (hn : 0 ≤ u.number) :
    Calls Tryz.prog 72 #[unitVal u (.slice A u.data.length c)] w fun e w' => e = .returned (.int .i64 u.lawful) ∧ Below w.heap.size w w' := by
  obtain ⟨kind, code, session, number, flags, data⟩ := u
  unfold unitVal
  simp only at *
  have hb : ∀ cs t, Below w.heap.size w (w.alloc (.cells cs t)) := fun cs t => (Below.refl _ _).alloc (Nat.le_refl _) _
  have hh := r4host_any kind
  have hd := r4device_any kind
  have hda := r4data_any kind data.length
  obtain ⟨law, Hlaw⟩ : ∃ x, Hid (x = (UnitM.mk kind code session number flags data).lawful) := ⟨_, Lib.hid rfl⟩
  rw [← Hlaw.out]
  by_cases hk : kind = 1 ∨ kind = 2 ∨ kind = 17 ∨ kind = 3 ∨ kind = 18 ∨ kind = 19 ∨ kind = 4 ∨ kind = 20 ∨ kind = 5 ∨ kind = 21 ∨ kind = 22
  · rcases hk with rfl | rfl | rfl | rfl | rfl | rfl | rfl | rfl | rfl | rfl | rfl
    all_goals
      go_enter Tryz.func72, Tryz.ntmps72
      go_wp2_with (first
        | (go_at_call 51; refine (hh _).mono ?_; rintro e w1 ⟨rfl, rfl⟩)
        | (go_at_call 117; refine (hd _).mono ?_; rintro e w1 ⟨rfl, rfl⟩)
        | (go_at_call 118; refine (hda _).mono ?_; rintro e w1 ⟨rfl, rfl⟩))
      all_goals
        go_ret
        refine ⟨?_, hb _ _⟩
        clear hh hd hda hb
        rw [Hlaw.out]
        clear Hlaw
        refine congrArg (fun x => Ending.returned (Value.int .i64 x)) ?_
        simp_all [UnitM.lawful, isHost, isDev, sessOk, numOk, flagOk]
        try omega
  · have e : (UnitM.mk kind code session number flags data).lawful = 43 := by
      have h1 : isHost kind = false := by simp [isHost]; omega
      have h2 : isDev kind = false := by simp [isDev]; omega
      simp [UnitM.lawful, h1, h2]
    have h1 : isHost kind = false := by simp [isHost]; omega
    have h2 : isDev kind = false := by simp [isDev]; omega
    rw [h1] at hh
    rw [h2] at hd
    rw [e] at Hlaw
    have hl := Hlaw.out
    subst hl
    simp only [not_or] at hk
    obtain ⟨n1, n2, n3, n4, n5, n6, n7, n8, n9, n10, n11⟩ := hk
    have g4 : (kind == 4) = false := by simpa using n7
    have g20 : (kind == 20) = false := by simpa using n8
    have g5 : (kind == 5) = false := by simpa using n9
    have g21 : (kind == 21) = false := by simpa using n10
    clear n1 n2 n3 n4 n5 n6 n7 n8 n9 n10 n11 e hda Hlaw
    go_enter Tryz.func72, Tryz.ntmps72
    go_wp2_with (first
      | (go_at_call 51; refine (hh _).mono ?_; rintro e w1 ⟨rfl, rfl⟩)
      | (go_at_call 117; refine (hd _).mono ?_; rintro e w1 ⟨rfl, rfl⟩))
    go_ret
    exact ⟨rfl, hb _ _⟩
end Go.Proofs.YtbkkfkbgcklkgaaGreat
/- The reference's Encode (parapetref04). -/
namespace Go.Proofs.YtbkkfkbgcklkgaaGreat
open Go.RowKit
set_option maxHeartbeats 10000000
set_option maxRecDepth 100000

theorem r4encode_any (u : UnitM) (A : Option Addr) (c B : Nat) (w : World) (ho : u.Ok) (hr : Reads w B 1 A u.data.length (u8c u.data)) (hB : B ≤ w.heap.size) :
    Calls Tryz.prog 60 #[unitVal u (.slice A u.data.length c)] w fun e w' => ∃ v, e = .returned (.tuple #[v, .int .i64 u.lawful]) ∧ w'.ownsRow w.heap.size 5 1 v u.encode.length (u8c u.encode) ∧ Below w.heap.size w w' := by
  obtain ⟨i0, hi0, hz0, hz1, hz2⟩ := info_parts byte_info
  have hlaw := fun w => r4lawful_any u A c w ho.session.1 ho.number.1
  have hlen := @UnitM.lawful_len u
  obtain ⟨code, hcode⟩ := word_ex ho.code
  obtain ⟨session, hsession⟩ := word_ex ho.session
  obtain ⟨number, hnumber⟩ := word_ex ho.number
  have henc : u.encode = if u.lawful = 0 then sealM (([byteOf u.kind] ++ wordOf code ++ wordOf session ++ wordOf number ++ [byteOf u.flags, byteOf u.data.length]) ++ u.data) else [] := by
    unfold UnitM.encode UnitM.body
    rw [hcode, hsession, hnumber, wordBytes_nat, wordBytes_nat, wordBytes_nat]
  obtain ⟨enc, he⟩ : ∃ enc, enc = u.encode := ⟨_, rfl⟩
  rw [← he]
  rw [← he] at henc
  clear he
  generalize u.lawful = law at *
  obtain ⟨kind, code', session', number', flags, data⟩ := u
  simp only at *
  subst hcode hsession hnumber
  unfold unitVal at *
  simp only at *
  have Henc := Lib.hid henc
  clear henc ho
  go_enter Tryz.func60, Tryz.ntmps60
  go_wp2_with fail
  refine (hlaw _).mono ?_
  rintro e w1 ⟨rfl, hb1⟩
  have hb1' : Below w.heap.size w w1 := ((Below.refl _ _).alloc (Nat.le_refl _) _).trans (hb1.mono (by simp))
  by_cases hl : law = 0
  · subst hl
    have hd8 := hlen rfl
    have hB1 := (Blk.new w 68 #[Value.int .i64 kind, u32v code, u32v session, u32v number, .int .i64 flags, .slice A data.length c]).below hb1 (by simp)
    clear hb1 hlen hlaw
    have hc1 : ∀ i, w1.cell? ⟨w.heap.size, i, none⟩ = (#[Value.int .i64 kind, u32v code, u32v session, u32v number, .int .i64 flags, .slice A data.length c] : Array Value)[i]? := hB1.cell
    have hr1 := hr.below (hb1'.mono hB)
    have hn1 := hb1'.size
    have hlt1 := hB1.lt
    have hBl : B ≤ w1.heap.size := by omega
    have hkind : (u8c [byteOf kind]).toArray = #[Value.int .u8 (kind % 256)] := by simp [u8c, byteOf_val]
    have hown : (w1.alloc (.cells #[Value.int .u8 (kind % 256)] 5)).ownsRow w1.heap.size 5 1 (.slice (some ⟨w1.heap.size, 0, none⟩) 1 1) 1 (u8c [byteOf kind]) := by
      have := own_full w1 #[Value.int .u8 (kind % 256)] 5 w1.heap.size (Nat.le_refl _) (by simp [maxLen])
      rw [← hkind] at this ⊢
      exact this
    have hbW : Below w.heap.size w (w1.alloc (.cells #[Value.int .u8 (kind % 256)] 5)) := hb1'.alloc hn1 _
    have hsz : w1.heap.size ≤ (w1.alloc (.cells #[Value.int .u8 (kind % 256)] 5)).heap.size := by simp
    replace hB1 := hB1.alloc (.cells #[Value.int .u8 (kind % 256)] 5)
    replace hr1 := hr1.alloc hBl (.cells #[Value.int .u8 (kind % 256)] 5)
    clear hb1' hkind hr
    go_wp2_with fail
    clear hc1
    refine (rword_any code _).mono ?_
    rintro e w1a ⟨v1a, rfl, hw, hb⟩
    obtain ⟨Aw1, cw1, rfl⟩ := own_slice hw
    replace hB1 := hB1.below hb hB1.lt
    replace hr1 := hr1.below (hb.mono (Nat.le_trans hBl hsz))
    replace hbW := hbW.trans (hb.mono hbW.size)
    replace hown := own_below hown hb
    replace hsz := Nat.le_trans hsz hb.size
    have hlt1 := hown.lt
    clear hb
    go_wp2_with (at_builtin; refine wpList_append_any _ rfl (.tmp 15) (.tmp 18) _ rfl w1.heap.size 5 i0 _ 1 1 Tryz.underlying41 hi0 hz0 hz1 hz2 rfl (by omega) (.slice (some ⟨w1.heap.size, 0, none⟩) 1 1) 1 (u8c [byteOf kind]) rfl hown w1a.heap.size Aw1 4 cw1 (u8c (wordOf code)) rfl (Reads.of_own hw) (u8c_one _) (by unfold maxLen; omega) (by omega) hsz ?_; intro v1b w1b hownN hg hat; rw [← u8c_append] at hownN; simp only [Nat.reduceAdd] at hownN; obtain ⟨A1s, c1s, rfl⟩ := own_slice hownN; clear hown; have hown := hownN; clear hownN; have hBn := hB1.grown hg (fun h => by have := (hlt1 _ h).1; omega); clear hB1; have hB1 := hBn; clear hBn; have hc1 := hB1.cell; have hrn := hr1.grown hg (Nat.le_trans hBl hsz) (fun g h => by have := (hlt1 g h).1; omega); clear hr1; have hr1 := hrn; clear hrn; have hbn := hbW.grown hg hbW.size (fun g h => by have := (hlt1 g h).1; omega); clear hbW; have hbW := hbn; clear hbn; have hsn := Nat.le_trans hsz hg.size; clear hsz; have hsz := hsn; clear hsn hg hat)
    clear hc1
    refine (rword_any session _).mono ?_
    rintro e w2a ⟨v2a, rfl, hw, hb⟩
    obtain ⟨Aw2, cw2, rfl⟩ := own_slice hw
    replace hB1 := hB1.below hb hB1.lt
    replace hr1 := hr1.below (hb.mono (Nat.le_trans hBl hsz))
    replace hbW := hbW.trans (hb.mono hbW.size)
    replace hown := own_below hown hb
    replace hsz := Nat.le_trans hsz hb.size
    have hlt2 := hown.lt
    clear hb
    go_wp2_with (at_builtin; refine wpList_append_any _ rfl (.tmp 20) (.tmp 23) _ rfl w1.heap.size 5 i0 _ 1 1 Tryz.underlying41 hi0 hz0 hz1 hz2 rfl (by omega) (.slice A1s 5 c1s) 5 (u8c ([byteOf kind] ++ wordOf code)) rfl hown w2a.heap.size Aw2 4 cw2 (u8c (wordOf session)) rfl (Reads.of_own hw) (u8c_one _) (by unfold maxLen; omega) (by omega) hsz ?_; intro v2b w2b hownN hg hat; rw [← u8c_append] at hownN; simp only [Nat.reduceAdd] at hownN; obtain ⟨A2s, c2s, rfl⟩ := own_slice hownN; clear hown; have hown := hownN; clear hownN; have hBn := hB1.grown hg (fun h => by have := (hlt2 _ h).1; omega); clear hB1; have hB1 := hBn; clear hBn; have hc2 := hB1.cell; have hrn := hr1.grown hg (Nat.le_trans hBl hsz) (fun g h => by have := (hlt2 g h).1; omega); clear hr1; have hr1 := hrn; clear hrn; have hbn := hbW.grown hg hbW.size (fun g h => by have := (hlt2 g h).1; omega); clear hbW; have hbW := hbn; clear hbn; have hsn := Nat.le_trans hsz hg.size; clear hsz; have hsz := hsn; clear hsn hg hat)
    clear hc2
    refine (rword_any number _).mono ?_
    rintro e w3a ⟨v3a, rfl, hw, hb⟩
    obtain ⟨Aw3, cw3, rfl⟩ := own_slice hw
    replace hB1 := hB1.below hb hB1.lt
    replace hr1 := hr1.below (hb.mono (Nat.le_trans hBl hsz))
    replace hbW := hbW.trans (hb.mono hbW.size)
    replace hown := own_below hown hb
    replace hsz := Nat.le_trans hsz hb.size
    have hlt3 := hown.lt
    clear hb
    go_wp2_with (first
      | (at_builtin; refine wpList_append_any _ rfl (.tmp 25) (.tmp 28) _ rfl w1.heap.size 5 i0 _ 1 1 Tryz.underlying41 hi0 hz0 hz1 hz2 rfl (by omega) (.slice A2s 9 c2s) 9 (u8c ([byteOf kind] ++ wordOf code ++ wordOf session)) rfl hown w3a.heap.size Aw3 4 cw3 (u8c (wordOf number)) rfl (Reads.of_own hw) (u8c_one _) (by unfold maxLen; omega) (by omega) hsz ?_; intro v3b w3b hownN hg hat; rw [← u8c_append] at hownN; simp only [Nat.reduceAdd] at hownN; obtain ⟨A3s, c3s, rfl⟩ := own_slice hownN; clear hown; have hown := hownN; clear hownN; have hBn := hB1.grown hg (fun h => by have := (hlt3 _ h).1; omega); clear hB1; have hB1 := hBn; clear hBn; have hc3 := hB1.cell; have hrn := hr1.grown hg (Nat.le_trans hBl hsz) (fun g h => by have := (hlt3 g h).1; omega); clear hr1; have hr1 := hrn; clear hrn; have hbn := hbW.grown hg hbW.size (fun g h => by have := (hlt3 g h).1; omega); clear hbW; have hbW := hbn; clear hbn; have hsn := Nat.le_trans hsz hg.size; clear hsz; have hsz := hsn; clear hsn hg hat)
      | (at_builtin; refine wpList_append_any _ rfl (.tmp 30) (.tmp 38) _ rfl w1.heap.size 5 i0 _ 1 1 Tryz.underlying41 hi0 hz0 hz1 hz2 rfl (by omega) (.slice A3s 13 c3s) 13 (u8c ([byteOf kind] ++ wordOf code ++ wordOf session ++ wordOf number)) rfl (hown.alloc _) (w3b.heap.size + 1) (some ⟨w3b.heap.size, 0, none⟩) 2 2 (u8c [byteOf flags, byteOf data.length]) rfl (by simpa using two_reads (by omega) (Blk.new w3b 5 _)) (u8c_one _) (by unfold maxLen; omega) (by omega) (by simp; omega) ?_; intro v4 w4 hown4 hg4 hat4; have hlt3b := hown.lt; have hB4 := (hB1.alloc _).grown hg4 (fun h => by have := (hlt3b _ h).1; omega); have hc4 := hB4.cell; have hr4 := (hr1.alloc (by omega) _).grown hg4 (by simp; omega) (fun g h => by have := (hlt3b g h).1; omega); have hs4 := hg4.size; have hlt4 := hown4.lt; have hbW4 := (hbW.alloc hbW.size _).grown hg4 (by have := hbW.size; simp; omega) (fun k hk => by have := (hlt3b k hk).1; omega); rw [← u8c_append] at hown4; simp only [Nat.reduceAdd] at hown4; obtain ⟨A4, c4, rfl⟩ := own_slice hown4)
      | (at_builtin; refine wpList_append_any _ rfl (.tmp 40) (.tmp 42) _ rfl w1.heap.size 5 i0 _ 1 1 Tryz.underlying41 hi0 hz0 hz1 hz2 rfl (by omega) (.slice A4 15 c4) 15 _ rfl hown4 B A data.length c (u8c data) rfl hr4 (u8c_one _) (by unfold maxLen; omega) (by omega) (by simp at hs4; omega) ?_; intro v5 w5 hown5 hg5 hat5; have hbW5 := hbW4.grown hg5 (by simp at hs4; omega) (fun k hk => by have := (hlt4 k hk).1; omega); rw [← u8c_append] at hown5; obtain ⟨A5, c5, rfl⟩ := own_slice hown5))
    have hw5 := hbW5.size
    refine (rseal_any A5 _ c5 _ w5.heap.size w5 (Reads.of_own hown5) (Nat.le_refl _) (by omega)).mono ?_
    rintro e w6 ⟨v6, rfl, hown6, hb6⟩
    go_wp2_with fail
    refine bodyPost_ret (v := .tuple #[v6, .int .i64 0]) (by simp [results, Tryz.results60, go_sem]) rfl ⟨_, rfl, ?_, hbW5.trans (hb6.mono hw5)⟩
    rw [Henc.out, if_pos trivial]
    have hlen : (sealM ([byteOf kind] ++ wordOf code ++ wordOf session ++ wordOf number ++ [byteOf flags, byteOf data.length] ++ data)).length = 15 + data.length + 4 := by
      simp [sealM, wordOf]; omega
    rw [hlen]
    exact own_base hown6 hw5
  · have g1 : (law != 0) = true := by simpa using hl
    have hnil : enc = [] := by rw [Henc.out, if_neg hl]
    subst hnil
    go_wp2_with fail
    refine bodyPost_ret (v := .tuple #[.slice none 0 0, .int .i64 law]) (by simp [results, Tryz.results60, go_sem]) rfl ⟨_, rfl, World.ownsRow_nil _ _ _ _, hb1'⟩
end Go.Proofs.YtbkkfkbgcklkgaaGreat
/- The reference's sets (parapetref09): Lawful, Encode, Sign; what one sees (parapetref13.Same). -/
namespace Go.Proofs.YtbkkfkbgcklkgaaGreat
open Go.RowKit
set_option maxHeartbeats 10000000
set_option maxRecDepth 100000

theorem r9lawful_any (p : ParM) (w : World) (ho : p.Ok) : Calls Tryz.prog 36 #[parVal p] w fun e w' => e = .returned (.bool p.lawful) ∧ Below w.heap.size w w' := by
  have hk := ho.code
  obtain ⟨code, out, inn, watch, count⟩ := p
  have hb : ∀ cs t, Below w.heap.size w (w.alloc (.cells cs t)) := fun cs t => (Below.refl _ _).alloc (Nat.le_refl _) _
  obtain ⟨law, Hlaw⟩ : ∃ b, Hid (b = (ParM.mk code out inn watch count).lawful) := ⟨_, Lib.hid rfl⟩
  rw [← Hlaw.out]
  have Hl2 : Hid (law = decide (code ≠ 0 ∧ 1 ≤ out ∧ out ≤ 8 ∧ 1 ≤ inn ∧ inn ≤ 8 ∧ 1 ≤ watch ∧ watch ≤ 1048576 ∧ 2 ≤ count)) := Lib.hid Hlaw.out
  clear Hlaw
  unfold parVal
  simp only at *
  have no : ∀ (q : Prop) [Decidable q], (law = decide q) → ¬ q → law = false := fun q _ h hn => by rw [h]; simpa using hn
  by_cases h1 : code ≤ 0
  · have hl := no _ Hl2.out (by omega)
    have hd : decide (0 < code) = false := by simp; omega
    subst hl
    go_enter Tryz.func36, Tryz.ntmps36
    go_wp2_with fail
    go_ret
    exact ⟨rfl, hb _ _⟩
  by_cases h2 : out < 1
  · have hl := no _ Hl2.out (by omega)
    subst hl
    go_enter Tryz.func36, Tryz.ntmps36
    go_wp2_with fail
    go_ret
    exact ⟨rfl, hb _ _⟩
  by_cases h3 : 8 < out
  · have hl := no _ Hl2.out (by omega)
    subst hl
    go_enter Tryz.func36, Tryz.ntmps36
    go_wp2_with fail
    go_ret
    exact ⟨rfl, hb _ _⟩
  by_cases h4 : inn < 1
  · have hl := no _ Hl2.out (by omega)
    subst hl
    go_enter Tryz.func36, Tryz.ntmps36
    go_wp2_with fail
    go_ret
    exact ⟨rfl, hb _ _⟩
  by_cases h5 : 8 < inn
  · have hl := no _ Hl2.out (by omega)
    subst hl
    go_enter Tryz.func36, Tryz.ntmps36
    go_wp2_with fail
    go_ret
    exact ⟨rfl, hb _ _⟩
  by_cases h6 : watch < 1
  · have hl := no _ Hl2.out (by omega)
    subst hl
    go_enter Tryz.func36, Tryz.ntmps36
    go_wp2_with fail
    go_ret
    exact ⟨rfl, hb _ _⟩
  by_cases h7 : 1048576 < watch
  · have hl := no _ Hl2.out (by omega)
    subst hl
    go_enter Tryz.func36, Tryz.ntmps36
    go_wp2_with fail
    go_ret
    exact ⟨rfl, hb _ _⟩
  · have hl : law = decide (2 ≤ count) := by rw [Hl2.out]; simp only [decide_eq_decide]; omega
    subst hl
    clear Hl2 no
    go_enter Tryz.func36, Tryz.ntmps36
    go_wp2_with fail
    go_ret
    exact ⟨rfl, hb _ _⟩
theorem r9encode_any (p : ParM) (w : World) (ho : p.Ok) (hl : p.lawful = true) :
    Calls Tryz.prog 61 #[parVal p] w fun e w' => ∃ v, e = .returned (.tuple #[v, .int .i64 0]) ∧ w'.ownsRow w.heap.size 5 1 v p.bytes.length (u8c p.bytes) ∧ Below w.heap.size w w' := by
  obtain ⟨i0, hi0, hz0, hz1, hz2⟩ := info_parts byte_info
  have hchk := fun w => r9lawful_any p w ho
  rw [hl] at hchk
  obtain ⟨bs, Hbs⟩ : ∃ b, Hid (b = p.bytes) := ⟨_, Lib.hid rfl⟩
  rw [← Hbs.out]
  have Hw : Hid (0 ≤ p.watch ∧ p.watch < 4294967296) := Lib.hid (by
    simp [ParM.lawful] at hl
    omega)
  obtain ⟨code, hcode⟩ := word_ex ho.code
  obtain ⟨count, hcount⟩ := word_ex ho.count
  obtain ⟨code', out, inn, watch, count'⟩ := p
  simp only at *
  subst hcode hcount
  obtain ⟨wt, hwt⟩ := word_ex Hw.out
  have Hb2 : Hid (bs = (wordOf code ++ [byteOf out, byteOf inn]) ++ wordOf wt ++ wordOf count) := Lib.hid (by
    rw [Hbs.out]
    unfold ParM.bytes
    simp only
    rw [hwt, wordBytes_nat, wordBytes_nat, wordBytes_nat])
  clear Hbs Hw hl ho
  subst hwt
  unfold parVal at *
  simp only at *
  have hwt1 : IntKind.u32.wrap (wt.toNat : Int) = (wt.toNat : Int) := by have := wt.isLt; exact IntWalk.u32_in _ (by omega)
  have hwt2 : (wt.toNat : Int) % 4294967296 = (wt.toNat : Int) := by have := wt.isLt; omega
  go_enter Tryz.func61, Tryz.ntmps61
  go_wp2_with fail
  refine (hchk _).mono ?_
  rintro e w1 ⟨rfl, hb1⟩
  have hB1 := (Blk.new w 35 #[u32v code, .int .i64 out, .int .i64 inn, .int .i64 (wt.toNat : Int), u32v count]).below hb1 (by simp)
  have hbW : Below w.heap.size w w1 := ((Below.refl _ _).alloc (Nat.le_refl _) _).trans (hb1.mono (by simp))
  have hn1 := hbW.size
  have hlt1 := hB1.lt
  have hc1 := hB1.cell
  have hc1a : ∀ o i, (w1.alloc o).cell? ⟨w.heap.size, i, none⟩ = (#[u32v code, .int .i64 out, .int .i64 inn, .int .i64 (wt.toNat : Int), u32v count] : Array Value)[i]? := fun o i => (hB1.alloc o).cell i
  have hown0 : (w1.alloc (.cells #[] 5)).ownsRow w1.heap.size 5 1 (.slice (some ⟨w1.heap.size, 0, none⟩) 0 0) 0 (u8c []) := World.ownsRow_made w1 #[] 0 (Nat.le_refl _) (by unfold maxLen; omega) rfl
  clear hb1 hchk
  go_wp2_with fail
  refine (rword_any code _).mono ?_
  rintro e w2 ⟨v2, rfl, hw2, hb2⟩
  obtain ⟨A2, c2, rfl⟩ := own_slice hw2
  replace hB1 := (hB1.alloc (.cells #[] 5)).below hb2 (hB1.alloc _).lt
  replace hbW := (hbW.alloc hbW.size (.cells #[] 5)).trans (hb2.mono (by simp; omega))
  have hown := own_below hown0 hb2
  have hsz : w1.heap.size ≤ w2.heap.size := by have := hb2.size; simp at this; omega
  have hlt2 := hown.lt
  clear hb2 hown0 hc1 hc1a
  go_wp2_with (first
    | (at_builtin; refine wpList_append_any _ rfl (.tmp 8) (.tmp 11) _ rfl w1.heap.size 5 i0 _ 1 1 Tryz.underlying41 hi0 hz0 hz1 hz2 rfl (by omega) (.slice (some ⟨w1.heap.size, 0, none⟩) 0 0) 0 (u8c []) rfl hown w2.heap.size A2 4 c2 (u8c (wordOf code)) rfl (Reads.of_own hw2) (u8c_one _) (by unfold maxLen; omega) (by omega) hsz ?_; intro v3 w3 hown3 hg3 hat3; rw [← u8c_append] at hown3; simp only [Nat.zero_add, List.nil_append] at hown3; obtain ⟨A3, c3, rfl⟩ := own_slice hown3; have hB3 := hB1.grown hg3 (fun h => by have := (hlt2 _ h).1; omega); have hc3 := hB3.cell; have hbW3 := hbW.grown hg3 hbW.size (fun g h => by have := (hlt2 g h).1; omega); have hsz3 := Nat.le_trans hsz hg3.size; have hlt3 := hown3.lt)
    | (at_builtin; refine wpList_append_any _ rfl (.tmp 13) (.tmp 20) _ rfl w1.heap.size 5 i0 _ 1 1 Tryz.underlying41 hi0 hz0 hz1 hz2 rfl (by omega) (.slice A3 4 c3) 4 (u8c (wordOf code)) rfl (hown3.alloc _) (w3.heap.size + 1) (some ⟨w3.heap.size, 0, none⟩) 2 2 (u8c [byteOf out, byteOf inn]) rfl (by simpa using byte_pair (Blk.new w3 5 _)) (u8c_one _) (by unfold maxLen; omega) (by omega) (by simp; omega) ?_; intro v4 w4 hown4 hg4 hat4; rw [← u8c_append] at hown4; simp only [Nat.reduceAdd] at hown4; obtain ⟨A4, c4, rfl⟩ := own_slice hown4; have hB4 := (hB3.alloc _).grown hg4 (fun h => by have := (hlt3 _ h).1; omega); have hc4 := hB4.cell; have hbW4 := (hbW3.alloc hbW3.size _).grown hg4 (by have := hbW3.size; simp; omega) (fun k hk => by have := (hlt3 k hk).1; omega); have hs4 := hg4.size; have hsz4 : w1.heap.size ≤ w4.heap.size := by simp at hs4; omega))
  refine (rword_any wt _).mono ?_
  rintro e w5 ⟨v5, rfl, hw5, hb5⟩
  obtain ⟨A5, c5, rfl⟩ := own_slice hw5
  have hB5 := hB4.below hb5 hB4.lt
  have hbW5 := hbW4.trans (hb5.mono hbW4.size)
  have hown5 := own_below hown4 hb5
  have hsz5 := Nat.le_trans hsz4 hb5.size
  have hlt5 := hown5.lt
  clear hc3 hc4 hs4
  go_wp2_with (at_builtin; refine wpList_append_any _ rfl (.tmp 22) (.tmp 26) _ rfl w1.heap.size 5 i0 _ 1 1 Tryz.underlying41 hi0 hz0 hz1 hz2 rfl (by omega) (.slice A4 6 c4) 6 (u8c (wordOf code ++ [byteOf out, byteOf inn])) rfl hown5 w5.heap.size A5 4 c5 (u8c (wordOf wt)) rfl (Reads.of_own hw5) (u8c_one _) (by unfold maxLen; omega) (by omega) hsz5 ?_; intro v6 w6 hown6 hg6 hat6; rw [← u8c_append] at hown6; simp only [Nat.reduceAdd] at hown6; obtain ⟨A6, c6, rfl⟩ := own_slice hown6; have hB6 := hB5.grown hg6 (fun h => by have := (hlt5 _ h).1; omega); have hc6 := hB6.cell; have hbW6 := hbW5.grown hg6 hbW5.size (fun g h => by have := (hlt5 g h).1; omega); have hsz6 := Nat.le_trans hsz5 hg6.size)
  refine (rword_any count _).mono ?_
  rintro e w7 ⟨v7, rfl, hw7, hb7⟩
  obtain ⟨A7, c7, rfl⟩ := own_slice hw7
  have hbW7 := hbW6.trans (hb7.mono hbW6.size)
  have hown7 := own_below hown6 hb7
  have hsz7 := Nat.le_trans hsz6 hb7.size
  have hlt7 := hown7.lt
  clear hc6
  go_wp2_with (at_builtin; refine wpList_append_any _ rfl (.tmp 28) (.tmp 31) _ rfl w1.heap.size 5 i0 _ 1 1 Tryz.underlying41 hi0 hz0 hz1 hz2 rfl (by omega) (.slice A6 10 c6) 10 (u8c (wordOf code ++ [byteOf out, byteOf inn] ++ wordOf wt)) rfl hown7 w7.heap.size A7 4 c7 (u8c (wordOf count)) rfl (Reads.of_own hw7) (u8c_one _) (by unfold maxLen; omega) (by omega) hsz7 ?_; intro v8 w8 hown8 hg8 hat8; rw [← u8c_append] at hown8; simp only [Nat.reduceAdd] at hown8; obtain ⟨A8, c8, rfl⟩ := own_slice hown8; have hbW8 := hbW7.grown hg8 hbW7.size (fun g h => by have := (hlt7 g h).1; omega))
  refine bodyPost_ret (v := .tuple #[.slice A8 14 c8, .int .i64 0]) (by simp [results, Tryz.results61, go_sem]) rfl ⟨_, rfl, ?_, hbW8⟩
  rw [Hb2.out]
  have hlen : ((wordOf code ++ [byteOf out, byteOf inn]) ++ wordOf wt ++ wordOf count).length = 14 := by simp [wordOf]
  rw [hlen]
  exact own_base hown8 hn1
theorem r9sign_any (p : ParM) (w : World) (ho : p.Ok) (hl : p.lawful = true) :
    Calls Tryz.prog 29 #[parVal p] w fun e w' => ∃ v, e = .returned v ∧ w'.ownsRow w.heap.size 5 1 v 4 (u8c p.sign) ∧ Below w.heap.size w w' := by
  have henc := fun w => r9encode_any p w ho hl
  have hs : p.sign = wordOf (crcOf 0#32 p.bytes) := rfl
  obtain ⟨bs, Hbs⟩ : ∃ b, Hid (b = p.bytes) := ⟨_, Lib.hid rfl⟩
  rw [hs]
  rw [← Hbs.out] at henc ⊢
  have hlen : bs.length = 14 := by rw [Hbs.out]; simp [ParM.bytes, wordBytes, wordOf]
  rw [hlen] at henc
  have Hlen := Lib.hid hlen
  clear hlen hl ho hs
  obtain ⟨code, out, inn, watch, count⟩ := p
  unfold parVal at *
  simp only at *
  go_enter Tryz.func29, Tryz.ntmps29
  go_wp2_with fail
  refine (henc _).mono ?_
  rintro e w1 ⟨v, rfl, hown, hb1⟩
  obtain ⟨A, c, rfl⟩ := own_slice hown
  have hb1' : Below w.heap.size w w1 := ((Below.refl _ _).alloc (Nat.le_refl _) _).trans (hb1.mono (by simp))
  go_wp2_with fail
  refine (rsum_any A 14 c bs _ w1 (Reads.of_own hown) (Nat.le_refl _) (by omega)).mono ?_
  rintro e w2 ⟨rfl, hb2⟩
  have hb2' := hb1'.trans (hb2.mono hb1'.size)
  go_wp2_with fail
  refine (rword_any _ w2).mono ?_
  rintro e w3 ⟨v3, rfl, hown3, hb3⟩
  go_wp2_with fail
  go_ret
  exact ⟨_, rfl, own_base hown3 hb2'.size, hb2'.trans (hb3.mono hb2'.size)⟩
end Go.Proofs.YtbkkfkbgcklkgaaGreat
/- What both ends of the reference need. -/
namespace Go.Proofs.YtbkkfkbgcklkgaaGreat
open Go.RowKit
set_option maxHeartbeats 10000000
set_option maxRecDepth 100000

section
variable {w : World} {vv : Value}
theorem RVal.ne {x : Option (List UInt8)} {g : Nat} {t : TypeId} {cs : Array Value} (h : RVal w vv x) (hg : Blk w g t cs) (hne : 5 ≠ t) : vv.ownBlock ≠ some g := by
  cases x with
  | none => rw [show vv = .slice none 0 0 from h]; simp [Value.ownBlock]
  | some l => exact own_ne h hg hne
theorem own_obj {base size n : Nat} {e : TypeId} {v : Value} {xs : List Value} {g : Nat} (h : w.ownsRow base e size v n xs) (hg : v.ownBlock = some g) : ∃ cs, Blk w g e cs := by
  rcases h.2 with ⟨rfl, _⟩ | ⟨g', cap, cur, rfl, _, hh, _⟩
  · simp [Value.ownBlock] at hg
  · have : g' = g := by simpa [Value.ownBlock] using hg
    subst this
    exact ⟨cur, hh⟩
end
theorem r13flags_any (b o : Nat) (t : TypeId) (pre post : List Value) (N : Nat) (V : ValveM) (vv : Value) (hold : Bool) (w : World) (hb : Blk w b t (seg pre (rvCs N V vv) post)) (ho : pre.length = o) (hv : RVal w vv V.value) (hN : N ≤ 8) (hval : ∀ l, V.value = some l → l.length = N) :
    Calls Tryz.prog 107 #[.pointer (some ⟨b, o, none⟩), .bool hold] w fun e w' => e = .returned (.int .i64 (flagsM V hold)) ∧ Below w.heap.size w w' := by
  obtain ⟨fl, Hfl⟩ : ∃ x, Hid (x = flagsM V hold) := ⟨_, Lib.hid rfl⟩
  rw [← Hfl.out]
  have hout := rvOutput_any b o t pre post V vv w N hb ho hv hN hval
  have hreq := fun w' hb' => rvRequest_any b o t pre post N V vv w' hb' ho
  clear hv hval
  cases hon : V.on <;> cases hrq : V.request <;> cases hlt : (V.latched != 0) <;> cases hho : hold
  all_goals
    rw [hon] at hout
    rw [hrq] at hreq
    go_enter Tryz.func107, Tryz.ntmps107
    go_wp2_with fail
    refine hout.mono ?_
    rintro e w1 ⟨x, rfl, hownx, hb1⟩
    obtain ⟨Ax, cx, rfl⟩ := own_slice hownx
    have hB1 := hb.below hb1 hb.lt
    obtain ⟨c0, c1, c2, c3, c4, c5, c6⟩ := rv_cells hB1 ho
    clear hownx hout
    go_wp2_with fail
    refine (hreq w1 hB1).mono ?_
    rintro e w2 ⟨rfl, rfl⟩
    clear c0 c1 c2 c3 c5 c6 hreq
    go_wp2_with fail
    go_ret
    refine ⟨?_, hb1⟩
    have e1 : (V.latched = 0) = (¬ (V.latched != 0) = true) := by simp
    rw [Hfl.out]
    unfold flagsM
    simp only [hon, hrq, hho, e1, hlt]
    rfl
theorem ack_val (V : ValveM) : V.ack.value = V.value := by
  unfold ValveM.ack
  split <;> rfl
theorem run_val (V : ValveM) (on : Bool) (vv : Value) : ((if V.running = on then vv else .slice none 0 0) = vv ∧ (V.run on).value = V.value) ∨ ((if V.running = on then vv else .slice none 0 0) = .slice none 0 0 ∧ (V.run on).value = none) := by
  unfold ValveM.run
  by_cases h : V.running = on
  · left; rw [if_pos h, if_pos h]; exact ⟨rfl, rfl⟩
  · right; rw [if_neg h, if_neg h]; exact ⟨rfl, rfl⟩
theorem r13same_any (e : EndM) (A1 A2 : Option Addr) (c1 c2 B : Nat) (w : World) (h1 : Reads w B 1 A1 e.out.length (u8c e.out)) (h2 : Reads w B 1 A2 e.out.length (u8c e.out)) (hB : B ≤ w.heap.size) :
    Calls Tryz.prog 22 #[endVal e (.slice A1 e.out.length c1), endVal e (.slice A2 e.out.length c2)] w fun r w' => r = .returned (.bool true) ∧ Below w.heap.size w w' := by
  have k1 : ∀ o1 o2, (convert 41 9 (.slice A1 e.out.length c1)).run Tryz.prog ((w.alloc o1).alloc o2) = .ok (.string ⟨e.out.toArray⟩) ((w.alloc o1).alloc o2) := fun o1 o2 => conv_reads ((h1.alloc hB o1).alloc (by simp; omega) o2)
  have k2 : ∀ o1 o2, (convert 41 9 (.slice A2 e.out.length c2)).run Tryz.prog ((w.alloc o1).alloc o2) = .ok (.string ⟨e.out.toArray⟩) ((w.alloc o1).alloc o2) := fun o1 o2 => conv_reads ((h2.alloc hB o1).alloc (by simp; omega) o2)
  obtain ⟨state, session, number, sent, since, latched, request, on, out⟩ := e
  unfold endVal
  simp only at *
  have hb : ∀ o1 o2, Below w.heap.size w ((w.alloc o1).alloc o2) := fun o1 o2 => ((Below.refl _ _).alloc (Nat.le_refl _) o1).alloc (by simp) o2
  have q1 : ∀ W, (binOp .eql 4 (.bool request) (.bool request)).run Tryz.prog W = .ok (.bool true) W := by cases request <;> exact fun _ => by kernel_rfl
  have q2 : ∀ W, (binOp .eql 4 (.bool on) (.bool on)).run Tryz.prog W = .ok (.bool true) W := by cases on <;> exact fun _ => by kernel_rfl
  clear h1 h2 hB
  go_enter Tryz.func22, Tryz.ntmps22
  go_wp2_with fail
  go_ret
  exact ⟨by simp, hb _ _⟩
theorem lawSmall_any (w : World) : Calls Tryz.prog 16 #[] w fun e w' => e = .returned (parVal smallM) ∧ Below w.heap.size w w' := by
  go_enter Tryz.func16, Tryz.ntmps16
  go_wp2_with fail
  refine bodyPost_ret (v := parVal smallM) (by simp [results, Tryz.results16, go_sem, parVal, smallM]) rfl ⟨rfl, ?_⟩
  exact (Below.refl _ _).alloc (Nat.le_refl _) _
end Go.Proofs.YtbkkfkbgcklkgaaGreat
/- The reference's Decode (parapetref04). -/
namespace Go.Proofs.YtbkkfkbgcklkgaaGreat
open Go.RowKit
set_option maxHeartbeats 10000000
set_option maxRecDepth 100000

theorem r4word_at (i : Nat) (ad : Addr) (n m c B : Nat) (l : List UInt8) (w : World) (hi : 0 < i) (hm : 4 ≤ m) (him : i + 4 ≤ n) (h : Reads w B 1 (some ad) n (u8c l)) :
    Calls Tryz.prog 71 #[.slice (some ⟨ad.block, ad.off + i, none⟩) m c] w fun e w' => e = .returned (.int .u32 (numAt l i)) ∧ ∃ k, w' = w.drewN k := by
  have e : ad.add i = ⟨ad.block, ad.off + i, none⟩ := by unfold Addr.add; rw [if_neg (by omega)]
  have g : ∀ j, (⟨ad.block, ad.off + i, none⟩ : Addr).add j = ad.add (i + j) := fun j => by rw [← e, add_of_add]
  refine r4word_any _ m c (l.getD i 0) (l.getD (i + 1) 0) (l.getD (i + 2) 0) (l.getD (i + 3) 0) w hm ?_ ?_ ?_ ?_ <;> rw [g]
  · exact h.byte (i + 0) (by omega)
  · exact h.byte (i + 1) (by omega)
  · exact h.byte (i + 2) (by omega)
  · exact h.byte (i + 3) (by omega)
theorem cut_mid (ad : Addr) (i j m c : Nat) (hi : 0 < i) (hij : i ≤ j) (hjc : j ≤ c) (hc : ¬ c = i) (W : World) : (Instr.slice 41 (.slice (some ad) m c) (some (.int .i64 (i : Int))) (some (.int .i64 (j : Int))) none).run Tryz.prog W = .ok (.slice (some ⟨ad.block, ad.off + i, none⟩) (j - i) (c - i)) W := by
  rw [run_slice_lh (P := Tryz.prog) (w := W) 41 _ _ _ (by kernel_rfl) .i64 .i64 i j (by omega) (by omega) (by omega)]
  have hs : (sizeOf ((Tryz.prog).elem 41)).run Tryz.prog W = .ok 1 W := by kernel_rfl
  rw [hs]
  have hi0 : ¬ i = 0 := by omega
  simp [Result.andThen, sliced, hc, Addr.add, hi0]
/-- The zero unit with a fault, behind its store. -/
theorem r4zero {w : World} {g : Nat} (h : Blk w g 68 #[.int .i64 0, .int .u32 0, .int .u32 0, .int .u32 0, .int .i64 0, .slice none 0 0]) {B : Nat} {w0 : World} (hb : Below B w0 w) (hg : B ≤ g) :
    Blk ((((((w.setCell ⟨g, 0, none⟩ (.int .i64 0)).setCell ⟨g, 1, none⟩ (.int .u32 0)).setCell ⟨g, 2, none⟩ (.int .u32 0)).setCell ⟨g, 3, none⟩ (.int .u32 0)).setCell ⟨g, 4, none⟩ (.int .i64 0)).setCell ⟨g, 5, none⟩ (.slice none 0 0)) g 68 #[.int .i64 0, .int .u32 0, .int .u32 0, .int .u32 0, .int .i64 0, .slice none 0 0] ∧
    Below B w0 ((((((w.setCell ⟨g, 0, none⟩ (.int .i64 0)).setCell ⟨g, 1, none⟩ (.int .u32 0)).setCell ⟨g, 2, none⟩ (.int .u32 0)).setCell ⟨g, 3, none⟩ (.int .u32 0)).setCell ⟨g, 4, none⟩ (.int .i64 0)).setCell ⟨g, 5, none⟩ (.slice none 0 0)) :=
  ⟨h.store6 _ _ _ _ _ _, below_store6 hb hg _ _ _ _ _ _⟩
theorem r4decode_any (A : Option Addr) (n c B : Nat) (l : List UInt8) (w : World) (hr : Reads w B 1 A n (u8c l)) (hB : B ≤ w.heap.size) (hc : n ≤ c) :
    Calls Tryz.prog 33 #[.slice A n c] w fun e w' => ∃ v, e = .returned (.tuple #[unitVal (decodeM l).1 v, .int .i64 (decodeM l).2]) ∧ w'.ownsRow w.heap.size 5 1 v (decodeM l).1.data.length (u8c (decodeM l).1.data) ∧ Below w.heap.size w w' := by
  have hl : l.length = n := by have := hr.1; simpa [u8c] using this
  have hbz : Below w.heap.size w (w.alloc (.cells #[.int .i64 0, .int .u32 0, .int .u32 0, .int .u32 0, .int .i64 0, .slice none 0 0] 68)) := (Below.refl _ _).alloc (Nat.le_refl _) _
  have hz0 := Blk.new w 68 #[.int .i64 0, .int .u32 0, .int .u32 0, .int .u32 0, .int .i64 0, .slice none 0 0]
  have hrz := hr.alloc hB (.cells #[.int .i64 0, .int .u32 0, .int .u32 0, .int .u32 0, .int .i64 0, .slice none 0 0] 68)
  have hs0 := hbz.size
  obtain ⟨g, Hg⟩ : ∃ g, Hid (g = w.heap.size) := ⟨_, Lib.hid rfl⟩
  have hgw : w.heap.size ≤ g := by have := Hg.out; omega
  by_cases h19 : n < 19
  · have e : decodeM l = (.zero, 40) := by unfold decodeM; rw [if_pos (by omega)]
    rw [e]
    clear e
    go_enter Tryz.func33, Tryz.ntmps33
    go_upto_region 1 with fail
    rw [← Hg.out] at hz0 ⊢
    generalize w.alloc (.cells #[.int .i64 0, .int .u32 0, .int .u32 0, .int .u32 0, .int .i64 0, .slice none 0 0] 68) = W0 at *
    have hcz := hz0.cell
    have hfz := hz0.frozen
    go_wp2_with fail
    obtain ⟨hB3, hb3⟩ := r4zero hz0 hbz hgw
    clear hcz hfz
    generalize (((((W0.setCell ⟨g, 0, none⟩ _).setCell ⟨g, 1, none⟩ _).setCell ⟨g, 2, none⟩ _).setCell ⟨g, 3, none⟩ _).setCell ⟨g, 4, none⟩ _).setCell ⟨g, 5, none⟩ _ = W3 at *
    have hcz := hB3.cell
    refine bodyPost_ret (v := .tuple #[unitVal .zero (.slice none 0 0), .int .i64 40]) (by simp [results, Tryz.results33, go_sem, unitVal, UnitM.zero, hcz]) rfl ⟨_, rfl, World.ownsRow_nil _ _ _ _, hb3⟩
  by_cases h27 : 27 < n
  · have e : decodeM l = (.zero, 41) := by unfold decodeM; rw [if_neg (by omega), if_pos (by omega)]
    rw [e]
    clear e
    go_enter Tryz.func33, Tryz.ntmps33
    go_upto_region 1 with fail
    rw [← Hg.out] at hz0 ⊢
    generalize w.alloc (.cells #[.int .i64 0, .int .u32 0, .int .u32 0, .int .u32 0, .int .i64 0, .slice none 0 0] 68) = W0 at *
    have hcz := hz0.cell
    have hfz := hz0.frozen
    go_wp2_with fail
    obtain ⟨hB3, hb3⟩ := r4zero hz0 hbz hgw
    clear hcz hfz
    generalize (((((W0.setCell ⟨g, 0, none⟩ _).setCell ⟨g, 1, none⟩ _).setCell ⟨g, 2, none⟩ _).setCell ⟨g, 3, none⟩ _).setCell ⟨g, 4, none⟩ _).setCell ⟨g, 5, none⟩ _ = W3 at *
    have hcz := hB3.cell
    refine bodyPost_ret (v := .tuple #[unitVal .zero (.slice none 0 0), .int .i64 41]) (by simp [results, Tryz.results33, go_sem, unitVal, UnitM.zero, hcz]) rfl ⟨_, rfl, World.ownsRow_nil _ _ _ _, hb3⟩
  obtain ⟨ad, rfl⟩ : ∃ ad, A = some ad := by
    obtain ⟨ad, h, _⟩ := hr.2 (by omega)
    exact ⟨ad, h⟩
  have hadB : ad.block < B := by
    obtain ⟨ad', e, h, _⟩ := hr.2 (by omega)
    injection e with e
    rw [e]
    exact h
  obtain ⟨n', rfl⟩ : ∃ n', n = n' + 19 := ⟨n - 19, by omega⟩
  obtain ⟨p, a0, a1, a2, a3, hl4, hpl⟩ := four_of (n := n' + 15) hl
  have hval := fun (W : World) hr' hb' => rvalid_any ad (n' + 19) (n' + 15) c p a0 a1 a2 a3 B W rfl hpl hr' hb' hc (by omega)
  rw [← hl4] at hval
  clear hl4 hpl
  cases hcrc : (crcOf 0#32 l == 0#32) with
  | false =>
    have hcrc' : crcOf 0#32 l ≠ 0#32 := by simpa using hcrc
    have e : decodeM l = (.zero, 42) := by unfold decodeM; rw [if_neg (by omega), if_neg (by omega), if_pos hcrc']
    rw [e]
    rw [hcrc] at hval
    clear e hcrc' hcrc
    go_enter Tryz.func33, Tryz.ntmps33
    go_wp2_with fail
    refine (hval _ hrz (by omega)).mono ?_
    rintro e W0 ⟨rfl, hbv⟩
    rw [← Hg.out] at hz0 ⊢
    replace hz0 := hz0.below hbv hz0.lt
    replace hbz := hbz.trans (hbv.mono hbz.size)
    clear hbv hrz hval
    have hcz := hz0.cell
    have hfz := hz0.frozen
    go_wp2_with fail
    obtain ⟨hB3, hb3⟩ := r4zero hz0 hbz hgw
    clear hcz hfz
    generalize (((((W0.setCell ⟨g, 0, none⟩ _).setCell ⟨g, 1, none⟩ _).setCell ⟨g, 2, none⟩ _).setCell ⟨g, 3, none⟩ _).setCell ⟨g, 4, none⟩ _).setCell ⟨g, 5, none⟩ _ = W3 at *
    have hcz := hB3.cell
    refine bodyPost_ret (v := .tuple #[unitVal .zero (.slice none 0 0), .int .i64 42]) (by simp [results, Tryz.results33, go_sem, unitVal, UnitM.zero, hcz]) rfl ⟨_, rfl, World.ownsRow_nil _ _ _ _, hb3⟩
  | true =>
    rw [hcrc] at hval
    have hn8 : n' ≤ 8 := by omega
    obtain ⟨dm, Hdm⟩ : ∃ d, Hid (d = decodeM l) := ⟨_, Lib.hid rfl⟩
    obtain ⟨b0, Hb0⟩ : ∃ b, Hid (b = l.getD 0 0) := ⟨_, Lib.hid rfl⟩
    obtain ⟨b13, Hb13⟩ : ∃ b, Hid (b = l.getD 13 0) := ⟨_, Lib.hid rfl⟩
    obtain ⟨b14, Hb14⟩ : ∃ b, Hid (b = l.getD 14 0) := ⟨_, Lib.hid rfl⟩
    rw [← Hdm.out]
    have Hcrc := Lib.hid hcrc
    go_enter Tryz.func33, Tryz.ntmps33
    go_wp2_with fail
    refine (hval _ hrz (by omega)).mono ?_
    rintro e W2 ⟨rfl, hbv⟩
    rw [← Hg.out] at hz0 ⊢
    have hz2 := hz0.below hbv hz0.lt
    have hb2 := hbz.trans (hbv.mono hbz.size)
    have hr2 := hrz.below (hbv.mono (by simp; omega))
    have hs2 := hz2.lt
    clear hbv hrz hval hz0 hbz hr hcrc hs0
    go_upto_region 7 with fail
    have hsW := hb2.size
    go_cut [4] from 18 to 66 (fun v4 wc => ∃ g5, v4 = .pointer (some ⟨g5, 0, none⟩) ∧ g < g5 ∧ Blk wc g5 68 #[.int .i64 (b0.toNat : Int), .int .u32 (numAt l 1), .int .u32 (numAt l 5), .int .u32 (numAt l 9), .int .i64 (b13.toNat : Int), .slice none 0 0] ∧
      Blk wc g 68 #[.int .i64 0, .int .u32 0, .int .u32 0, .int .u32 0, .int .i64 0, .slice none 0 0] ∧ Reads wc B 1 (some ad) (n' + 19) (u8c l) ∧ Below w.heap.size w wc)
    case first =>
      have i0 : (0 : Int) < (n' : Int) + 19 := by omega
      have i13 : (13 : Int) < (n' : Int) + 19 := by omega
      have i1 : (1 : Int) ≤ (n' : Int) + 19 := by omega
      have i5 : (5 : Int) ≤ (n' : Int) + 19 := by omega
      have i9 : (9 : Int) ≤ (n' : Int) + 19 := by omega
      have c1 : ¬ c = 1 := by omega
      have c5 : ¬ c = 5 := by omega
      have c9 : ¬ c = 9 := by omega
      have ic : ((n' : Int) + 19) ≤ (c : Int) := by omega
      have x1 : ∀ W, (Instr.slice 41 (.slice (some ad) (n' + 19) c) (some (.int .i64 1)) (some (.int .i64 5)) none).run Tryz.prog W = .ok (.slice (some ⟨ad.block, ad.off + 1, none⟩) 4 (c - 1)) W := fun W => cut_mid ad 1 5 (n' + 19) c (by omega) (by omega) (by omega) (by omega) W
      have x5 : ∀ W, (Instr.slice 41 (.slice (some ad) (n' + 19) c) (some (.int .i64 5)) (some (.int .i64 9)) none).run Tryz.prog W = .ok (.slice (some ⟨ad.block, ad.off + 5, none⟩) 4 (c - 5)) W := fun W => cut_mid ad 5 9 (n' + 19) c (by omega) (by omega) (by omega) (by omega) W
      have x9 : ∀ W, (Instr.slice 41 (.slice (some ad) (n' + 19) c) (some (.int .i64 9)) (some (.int .i64 13)) none).run Tryz.prog W = .ok (.slice (some ⟨ad.block, ad.off + 9, none⟩) 4 (c - 9)) W := fun W => cut_mid ad 9 13 (n' + 19) c (by omega) (by omega) (by omega) (by omega) W
      have hwr0 : IntKind.i64.wrap (b0.toNat : Int) = (b0.toNat : Int) := by have := b0.toNat_lt; exact IntWalk.i64_in _ (by omega)
      have hwr13 : IntKind.i64.wrap (b13.toNat : Int) = (b13.toNat : Int) := by have := b13.toNat_lt; exact IntWalk.i64_in _ (by omega)
      have hBW0 : B ≤ W2.heap.size := by omega
      have hBW := size_drew hBW0
      have hr0 := hr2
      have hz0 := hz2
      have hb0 := hb2
      replace hr2 := hr2.drew
      replace hz2 := hz2.drew
      replace hb2 := hb2.drew
      have p13 : 13 < n' + 19 := by omega
      go_wp2_with fail
      go_region_held3 (fun w' => w'.cell? ad = some (.int .u8 (b0.toNat : Int)) ∧ w'.cell? ⟨ad.block, ad.off + 13, none⟩ = some (.int .u8 (b13.toNat : Int))) (with_reducible (first | exact hr2.two p13 Hb0 Hb13 | exact (hr2.alloc hBW _).two p13 Hb0 Hb13 | exact (hr0.alloc hBW0 _).drew.two p13 Hb0 Hb13 | exact (hr2.store6 hBN _ _ _ _ _ _).two p13 Hb0 Hb13)) (first
        | (go_at_call 71; refine (r4word_at _ ad (n' + 19) _ _ B l _ ?_ ?_ ?_ ?_).mono ?_; omega; omega; omega; with_reducible exact hr2; rintro e W ⟨rfl, k1, hW⟩; replace hz2 := hz2.same (Same.of hW (Same.refl _)); replace hb2 := below_same hb2 (Same.of hW (Same.refl _)); replace hBW := size_same hBW (Same.of hW (Same.refl _)); (try (replace hN := hN.same (Same.of hW (Same.refl _)); replace hNc := hN.cell; replace hNf := hN.frozen)); replace hr2 := hr2.same (Same.of hW (Same.refl _)); clear hW)
        | (go_at_call 71; refine (r4word_at _ ad (n' + 19) _ _ B l _ ?_ ?_ ?_ ?_).mono ?_; omega; omega; omega; with_reducible exact hr2.alloc hBW _; rintro e W ⟨rfl, k1, hW⟩; have hBN := hBW; have hgN := hz2.lt; have hgW := hb2.size; replace hz2 := (hz2.alloc _).same (Same.of hW (Same.refl _)); replace hb2 := below_same (hb2.alloc hb2.size _) (Same.of hW (Same.refl _)); have hN := (Blk.new _ 68 #[.int .i64 0, .int .u32 0, .int .u32 0, .int .u32 0, .int .i64 0, .slice none 0 0]).same (Same.of hW (Same.refl _)); have hNc := hN.cell; have hNf := hN.frozen; replace hr2 := (hr2.alloc hBW _).same (Same.of hW (Same.refl _)); replace hBW := size_same (size_alloc hBW _) (Same.of hW (Same.refl _)); clear hW)
        | (go_at_call 71; refine (r4word_at _ ad (n' + 19) _ _ B l _ ?_ ?_ ?_ ?_).mono ?_; omega; omega; omega; with_reducible exact (hr0.alloc hBW0 _).drew; rintro e W ⟨rfl, k1, hW⟩; have hBN := hBW0; have hgN := hz0.lt; have hgW := hb0.size; replace hz2 := ((hz0.alloc _).drew).same (Same.of hW (Same.refl _)); replace hb2 := below_same ((hb0.alloc hb0.size _).drew) (Same.of hW (Same.refl _)); have hN := ((Blk.new _ 68 #[.int .i64 0, .int .u32 0, .int .u32 0, .int .u32 0, .int .i64 0, .slice none 0 0]).drew).same (Same.of hW (Same.refl _)); have hNc := hN.cell; have hNf := hN.frozen; replace hr2 := ((hr0.alloc hBW0 _).drew).same (Same.of hW (Same.refl _)); replace hBW := size_same (size_drew (size_alloc hBW0 _)) (Same.of hW (Same.refl _)); clear hW))
      all_goals (go_wp2_with fail; go_meet)
      all_goals first
        | exact ⟨_, rfl, hz2.lt, Blk.new _ _ _, hz2.alloc _, hr2.alloc hBW _, hb2.alloc hb2.size _⟩
        | exact ⟨_, rfl, hgN, hN.store6 _ _ _ _ _ _, hz2.far6 hgN _ _ _ _ _ _, hr2.store6 hBN _ _ _ _ _ _, below_store6 hb2 hgW _ _ _ _ _ _⟩
    case rest =>
      obtain ⟨g5, rfl, hg5, hB5, hz5, hr5, hb5⟩ := hcut
      obtain ⟨W5, rfl⟩ : ∃ W : World, W = wc := ⟨_, rfl⟩
      clear hb2 hr2 hs2 hz2 hsW
      obtain ⟨data, Hdata⟩ : ∃ d, Hid (d = (l.drop 15).take n') := ⟨_, Lib.hid rfl⟩
      have hdl : data.length = n' := by rw [Hdata.out, List.length_take, List.length_drop]; omega
      have hrd : Reads W5 B 1 (some ⟨ad.block, ad.off + 15, none⟩) n' (u8c data) := by
        have := hr5.sub 15 n' (by omega)
        rw [u8c_sub, ← Hdata.out] at this
        exact this
      have h14c : W5.cell? ⟨ad.block, ad.off + 14, none⟩ = some (.int .u8 (b14.toNat : Int)) := by
        have := hr5.byte 14 (by omega)
        rw [← Hb14.out] at this
        exact this
      have Hunit : Hid (unitOf l = ⟨b0.toNat, numAt l 1, numAt l 5, numAt l 9, b13.toNat, data⟩) := Lib.hid (by
        unfold unitOf
        rw [← Hb0.out, ← Hb13.out, Hdata.out, hl, show n' + 19 - 19 = n' by omega])
      have Hdm2 : Hid (dm = (if (if (unitOf l).lawful ≠ 43 ∧ (unitOf l).lawful ≠ 44 ∧ (b14.toNat) ≠ (unitOf l).data.length then 45 else (unitOf l).lawful) ≠ 0 then (.zero, (if (unitOf l).lawful ≠ 43 ∧ (unitOf l).lawful ≠ 44 ∧ (b14.toNat) ≠ (unitOf l).data.length then 45 else (unitOf l).lawful)) else (unitOf l, 0))) := Lib.hid (by
        have hc0 : ¬ crcOf 0#32 l ≠ 0#32 := by have := Hcrc.out; simpa using this
        rw [Hdm.out, Hb14.out]
        unfold decodeM
        rw [if_neg (by omega), if_neg (by omega), if_neg hc0])
      have Hdm3 : Hid (dm = (if (if (UnitM.mk b0.toNat (numAt l 1) (numAt l 5) (numAt l 9) b13.toNat data).lawful ≠ 43 ∧ (UnitM.mk b0.toNat (numAt l 1) (numAt l 5) (numAt l 9) b13.toNat data).lawful ≠ 44 ∧ ¬ b14.toNat = n' then 45 else (UnitM.mk b0.toNat (numAt l 1) (numAt l 5) (numAt l 9) b13.toNat data).lawful) ≠ 0 then (.zero, (if (UnitM.mk b0.toNat (numAt l 1) (numAt l 5) (numAt l 9) b13.toNat data).lawful ≠ 43 ∧ (UnitM.mk b0.toNat (numAt l 1) (numAt l 5) (numAt l 9) b13.toNat data).lawful ≠ 44 ∧ ¬ b14.toNat = n' then 45 else (UnitM.mk b0.toNat (numAt l 1) (numAt l 5) (numAt l 9) b13.toNat data).lawful)) else ((⟨b0.toNat, numAt l 1, numAt l 5, numAt l 9, b13.toNat, data⟩ : UnitM), 0))) := Lib.hid (by
        rw [Hdm2.out, Hunit.out, hdl])
      clear Hdm Hdm2 Hunit Hcrc hr5
      have n1 := numAt_nonneg l 5
      have n2 := numAt_nonneg l 9
      generalize numAt l 1 = q1 at *
      generalize numAt l 5 = q5 at *
      generalize numAt l 9 = q9 at *
      have hlaw := fun A c w => r4lawful_any ⟨b0.toNat, q1, q5, q9, b13.toNat, data⟩ A c w n1 n2
      unfold unitVal at hlaw
      simp only [hdl] at hlaw
      generalize (UnitM.mk b0.toNat q1 q5 q9 b13.toNat data).lawful = law at *
      obtain ⟨i0, hi0, hz0, hz1, hz2⟩ := info_parts byte_info
      have hw14 : IntKind.i64.wrap (b14.toNat : Int) = (b14.toNat : Int) := by have := b14.toNat_lt; exact IntWalk.i64_in _ (by omega)
      have hsz5 := hb5.size
      have hgl := hz5.lt
      have hg5l := hB5.lt
      have Hl := Lib.hid hl
      clear hl
      have hcn : n' + 15 ≤ c := by omega
      have x15 : ∀ W, (Instr.slice 41 (.slice (some ad) (n' + 19) c) (some (.int .i64 15)) (some (.int .i64 ((n' : Int) + 15))) none).run Tryz.prog W = .ok (.slice (some ⟨ad.block, ad.off + 15, none⟩) n' (c - 15)) W := fun W => by
        have := cut_mid ad 15 (n' + 15) (n' + 19) c (by omega) (by omega) hcn (by omega) W
        rw [Nat.add_sub_cancel] at this
        exact this
      go_wp2_with (at_builtin; refine wpList_append_any _ rfl (.tmp 36) (.tmp 41) _ rfl W5.heap.size 5 i0 _ 1 1 Tryz.underlying41 hi0 hz0 hz1 hz2 rfl (by omega) (.slice (some ⟨W5.heap.size, 0, none⟩) 0 0) 0 [] rfl (World.ownsRow_made W5 #[] 0 (Nat.le_refl _) (by unfold maxLen; omega) rfl) B (some ⟨ad.block, ad.off + 15, none⟩) n' (c - 15) (u8c data) rfl (hrd.alloc (by omega) _) (u8c_one _) (by unfold maxLen; omega) (by omega) (by simp) ?_; intro v6 w6 hown6 hg6 hat6; rw [Nat.zero_add, List.nil_append] at hown6; obtain ⟨A6, c6, rfl⟩ := own_slice hown6; have hb6 : Below W5.heap.size W5 w6 := ((Below.refl _ _).alloc (Nat.le_refl _) _).grown hg6 (by simp) (fun k hk => by simp [Value.ownBlock] at hk; omega); have hB6 := hB5.below hb6 hg5l; have hz6 := hz5.below hb6 hgl; have hc6 := hB6.cell; have hf6 := hB6.frozen)
      refine (hlaw _ _ _).mono ?_
      rintro e W7 ⟨rfl, hb7⟩
      have hB7 : Blk W7 g5 68 #[.int .i64 (b0.toNat : Int), .int .u32 q1, .int .u32 q5, .int .u32 q9, .int .i64 (b13.toNat : Int), .slice A6 n' c6] := by
        have := (hB6.set_ 5 (.slice A6 n' c6)).below hb7 (hB6.set_ 5 _).lt
        simpa using this
      have hz7 := (hz6.far (p := ⟨g5, 5, none⟩) (Nat.ne_of_lt hg5) (.slice A6 n' c6)).below hb7 (hz6.far (p := ⟨g5, 5, none⟩) (Nat.ne_of_lt hg5) _).lt
      have hb6' := hb5.trans (hb6.mono hsz5)
      have hb7' : Below w.heap.size w W7 := (hb6'.setCell (p := ⟨g5, 5, none⟩) (by simp; omega) (.slice A6 n' c6)).trans (hb7.mono (by simp [World.setCell]; exact hb6'.size))
      have hown7 : W7.ownsRow W5.heap.size 5 1 (.slice A6 n' c6) n' (u8c data) := by
        refine own_below (own_far hown6 (g := g5) (fun h => ?_) 5 _) hb7
        have := (hown6.lt _ h).1
        omega
      have h14d : W7.cell? ⟨ad.block, ad.off + 14, none⟩ = some (.int .u8 (b14.toNat : Int)) :=
        ((hb7'.cell (p := ⟨ad.block, ad.off + 14, none⟩) (Nat.lt_of_lt_of_le hadB hB)).trans (hb5.cell (p := ⟨ad.block, ad.off + 14, none⟩) (Nat.lt_of_lt_of_le hadB hB)).symm).trans h14c
      have hlt6 := hown6.lt
      have hc7 := hB7.cell
      have hz7c := hz7.cell
      have hf7 := hz7.frozen
      have i14 : (14 : Int) < (n' : Int) + 19 := by omega
      clear hb7 hB6 hz6 hb6 hb6' hown6 hlaw h14c hc6 hf6 hg6 hat6 hrd x15 hB5 hz5
      by_cases x43 : law = 43
      · subst x43
        go_wp2_with fail
        go_big_quiet (fail)
        have hq7 := hz7.drewN nq
        have hbq := belowN hb7' nq
        generalize W7.drewN nq = W8 at *
        clear hc7 hz7c hf7 h14d
        have hcz := hq7.cell
        have hcf := hq7.frozen
        go_wp2_with fail
        obtain ⟨hB9, hb9⟩ := r4zero hq7 hbq hgw
        clear hcz hcf
        generalize (((((W8.setCell ⟨g, 0, none⟩ _).setCell ⟨g, 1, none⟩ _).setCell ⟨g, 2, none⟩ _).setCell ⟨g, 3, none⟩ _).setCell ⟨g, 4, none⟩ _).setCell ⟨g, 5, none⟩ _ = W9 at *
        have hc9 := hB9.cell
        have hdm : dm = (.zero, 43) := by rw [Hdm3.out]; simp
        subst hdm
        refine bodyPost_ret (v := .tuple #[unitVal .zero (.slice none 0 0), .int .i64 43]) (by simp [results, Tryz.results33, go_sem, unitVal, UnitM.zero, hc9]) rfl ⟨_, rfl, World.ownsRow_nil _ _ _ _, hb9⟩
      have g43 : (law != 43) = true := by simpa using x43
      by_cases x44 : law = 44
      · subst x44
        go_wp2_with fail
        go_big_quiet (fail)
        have hq7 := hz7.drewN nq
        have hbq := belowN hb7' nq
        generalize W7.drewN nq = W8 at *
        clear hc7 hz7c hf7 h14d
        have hcz := hq7.cell
        have hcf := hq7.frozen
        go_wp2_with fail
        obtain ⟨hB9, hb9⟩ := r4zero hq7 hbq hgw
        clear hcz hcf
        generalize (((((W8.setCell ⟨g, 0, none⟩ _).setCell ⟨g, 1, none⟩ _).setCell ⟨g, 2, none⟩ _).setCell ⟨g, 3, none⟩ _).setCell ⟨g, 4, none⟩ _).setCell ⟨g, 5, none⟩ _ = W9 at *
        have hc9 := hB9.cell
        have hdm : dm = (.zero, 44) := by rw [Hdm3.out]; simp
        subst hdm
        refine bodyPost_ret (v := .tuple #[unitVal .zero (.slice none 0 0), .int .i64 44]) (by simp [results, Tryz.results33, go_sem, unitVal, UnitM.zero, hc9]) rfl ⟨_, rfl, World.ownsRow_nil _ _ _ _, hb9⟩
      have g44 : (law != 44) = true := by simpa using x44
      by_cases h14 : b14.toNat = n'
      · have hq14 : ((b14.toNat : Int) == (n' : Int)) = true := by simp; omega
        have hq14' : ((b14.toNat : Int) != (n' : Int)) = false := by simp; omega
        go_wp2_with fail
        go_big_quiet (fail)
        by_cases hl0 : law = 0
        · subst hl0
          have hq7 := hz7.drewN nq
          have hB7q := hB7.drewN nq
          have hbq := belowN hb7' nq
          have hownq := own_below hown7 (belowN (Below.refl W7.heap.size W7) nq)
          generalize W7.drewN nq = W8 at *
          clear hc7 hz7c hf7 h14d
          have hcz := hq7.cell
          have hcf := hq7.frozen
          have hc7 := hB7q.cell
          go_wp2_with fail
          have hB9 := hq7.store6 (.int .i64 (b0.toNat : Int)) (.int .u32 q1) (.int .u32 q5) (.int .u32 q9) (.int .i64 (b13.toNat : Int)) (.slice A6 n' c6)
          have hb9 := below_store6 hbq hgw (.int .i64 (b0.toNat : Int)) (.int .u32 q1) (.int .u32 q5) (.int .u32 q9) (.int .i64 (b13.toNat : Int)) (.slice A6 n' c6)
          have hfar : (Value.slice A6 n' c6).ownBlock ≠ some g := fun h => by have := (hlt6 g h).1; omega
          have hown9 := own_far (own_far (own_far (own_far (own_far (own_far hownq hfar 0 (.int .i64 (b0.toNat : Int))) hfar 1 (.int .u32 q1)) hfar 2 (.int .u32 q5)) hfar 3 (.int .u32 q9)) hfar 4 (.int .i64 (b13.toNat : Int))) hfar 5 (.slice A6 n' c6)
          clear hcz hcf hc7
          generalize (((((W8.setCell ⟨g, 0, none⟩ _).setCell ⟨g, 1, none⟩ _).setCell ⟨g, 2, none⟩ _).setCell ⟨g, 3, none⟩ _).setCell ⟨g, 4, none⟩ _).setCell ⟨g, 5, none⟩ _ = W9 at *
          have hc9 := hB9.cell
          have hdm : dm = (⟨b0.toNat, q1, q5, q9, b13.toNat, data⟩, 0) := by rw [Hdm3.out]; simp [h14]
          subst hdm
          refine bodyPost_ret (v := .tuple #[unitVal ⟨b0.toNat, q1, q5, q9, b13.toNat, data⟩ (.slice A6 n' c6), .int .i64 0]) (by simp [results, Tryz.results33, go_sem, unitVal, hc9]) rfl ⟨_, rfl, ?_, hb9⟩
          simp only [hdl]
          exact own_base hown9 hsz5
        · have hl0' : (law != 0) = true := by simpa using hl0
          have hq7 := hz7.drewN nq
          have hbq := belowN hb7' nq
          generalize W7.drewN nq = W8 at *
          clear hc7 hz7c hf7 h14d
          have hcz := hq7.cell
          have hcf := hq7.frozen
          go_wp2_with fail
          obtain ⟨hB9, hb9⟩ := r4zero hq7 hbq hgw
          clear hcz hcf
          generalize (((((W8.setCell ⟨g, 0, none⟩ _).setCell ⟨g, 1, none⟩ _).setCell ⟨g, 2, none⟩ _).setCell ⟨g, 3, none⟩ _).setCell ⟨g, 4, none⟩ _).setCell ⟨g, 5, none⟩ _ = W9 at *
          have hc9 := hB9.cell
          have hdm : dm = (.zero, law) := by rw [Hdm3.out]; simp [h14, hl0]
          subst hdm
          refine bodyPost_ret (v := .tuple #[unitVal .zero (.slice none 0 0), .int .i64 law]) (by simp [results, Tryz.results33, go_sem, unitVal, UnitM.zero, hc9]) rfl ⟨_, rfl, World.ownsRow_nil _ _ _ _, hb9⟩
      · have hq14 : ((b14.toNat : Int) == (n' : Int)) = false := by simp; omega
        have hq14' : ((b14.toNat : Int) != (n' : Int)) = true := by simp; omega
        go_wp2_with fail
        go_big_quiet (fail)
        have hq7 := hz7.drewN nq
        have hbq := belowN hb7' nq
        generalize W7.drewN nq = W8 at *
        clear hc7 hz7c hf7 h14d
        have hcz := hq7.cell
        have hcf := hq7.frozen
        go_wp2_with fail
        obtain ⟨hB9, hb9⟩ := r4zero hq7 hbq hgw
        clear hcz hcf
        generalize (((((W8.setCell ⟨g, 0, none⟩ _).setCell ⟨g, 1, none⟩ _).setCell ⟨g, 2, none⟩ _).setCell ⟨g, 3, none⟩ _).setCell ⟨g, 4, none⟩ _).setCell ⟨g, 5, none⟩ _ = W9 at *
        have hc9 := hB9.cell
        have hdm : dm = (.zero, 45) := by rw [Hdm3.out]; simp [x43, x44, h14]
        subst hdm
        refine bodyPost_ret (v := .tuple #[unitVal .zero (.slice none 0 0), .int .i64 45]) (by simp [results, Tryz.results33, go_sem, unitVal, UnitM.zero, hc9]) rfl ⟨_, rfl, World.ownsRow_nil _ _ _ _, hb9⟩
end Go.Proofs.YtbkkfkbgcklkgaaGreat
/- What is encoded is decoded: plain. -/
namespace Go.Proofs.YtbkkfkbgcklkgaaGreat

theorem lawful_kind {u : UnitM} (h : u.lawful = 0) : 1 ≤ u.kind ∧ u.kind ≤ 22 := by
  unfold UnitM.lawful at h
  split at h
  · cases h
  · rename_i h1
    simp [isHost, isDev] at h1
    by_cases h2 : u.kind < 1 ∨ 5 < u.kind
    · have := h1 h2
      omega
    · omega
theorem lawful_flags2 {u : UnitM} (h : u.lawful = 0) : 0 ≤ u.flags ∧ u.flags ≤ 15 := by
  unfold UnitM.lawful at h
  split at h
  · cases h
  split at h
  · cases h
  split at h
  · cases h
  split at h
  · cases h
  split at h
  · cases h
  split at h
  · cases h
  · rename_i h1
    simp [flagOk] at h1
    omega
theorem byteOf_nat {n : Int} (h0 : 0 ≤ n) (h1 : n < 256) : (((byteOf n).toNat : Nat) : Int) = n := by
  rw [byteOf_val]
  omega
theorem ofInt_word {n : Int} (h : 0 ≤ n ∧ n < 4294967296) : (((BitVec.ofInt 32 n).toNat : Nat) : Int) = n := by
  simp [BitVec.toNat_ofInt]
  omega
theorem decode_encode {u : UnitM} (h : u.lawful = 0) (ho : u.Ok) : decodeM u.encode = (u, 0) := by
  have hd := UnitM.lawful_len h
  have hk := lawful_kind h
  have hf := lawful_flags2 h
  have he : u.encode = sealM u.body := by unfold UnitM.encode; rw [if_pos h]
  have hlen : u.body.length = 15 + u.data.length := by
    unfold UnitM.body wordBytes wordOf
    simp
    omega
  have hsl : (sealM u.body).length = u.data.length + 19 := by
    unfold sealM wordOf
    simp [hlen]
    omega
  have hcrc : crcOf 0#32 (sealM u.body) = 0#32 := by
    unfold sealM
    exact (crc_valid u.body _ _ _ _).2 rfl
  have hu : unitOf (sealM u.body) = u := by
    obtain ⟨kind, code, session, number, flags, data⟩ := u
    unfold unitOf
    rw [hsl]
    simp only at *
    have e1 : numAt (sealM (UnitM.body ⟨kind, code, session, number, flags, data⟩)) 1 = code := by
      unfold numAt sealM UnitM.body wordBytes wordOf
      simp only [List.cons_append, List.nil_append, List.getD_cons_succ, List.getD_cons_zero]
      rw [ofWord_wordOf]
      exact ofInt_word ho.code
    have e5 : numAt (sealM (UnitM.body ⟨kind, code, session, number, flags, data⟩)) 5 = session := by
      unfold numAt sealM UnitM.body wordBytes wordOf
      simp only [List.cons_append, List.nil_append, List.getD_cons_succ, List.getD_cons_zero]
      rw [ofWord_wordOf]
      exact ofInt_word ho.session
    have e9 : numAt (sealM (UnitM.body ⟨kind, code, session, number, flags, data⟩)) 9 = number := by
      unfold numAt sealM UnitM.body wordBytes wordOf
      simp only [List.cons_append, List.nil_append, List.getD_cons_succ, List.getD_cons_zero]
      rw [ofWord_wordOf]
      exact ofInt_word ho.number
    have e0 : (((sealM (UnitM.body ⟨kind, code, session, number, flags, data⟩)).getD 0 0).toNat : Int) = kind := by
      unfold sealM UnitM.body
      simp only [List.cons_append, List.nil_append, List.getD_cons_zero]
      exact byteOf_nat (by omega) (by omega)
    have e13 : (((sealM (UnitM.body ⟨kind, code, session, number, flags, data⟩)).getD 13 0).toNat : Int) = flags := by
      unfold sealM UnitM.body wordBytes wordOf
      simp only [List.cons_append, List.nil_append, List.getD_cons_succ, List.getD_cons_zero]
      exact byteOf_nat (by omega) (by omega)
    have ed : ((sealM (UnitM.body ⟨kind, code, session, number, flags, data⟩)).drop 15).take (data.length + 19 - 19) = data := by
      unfold sealM UnitM.body wordBytes wordOf
      simp
    rw [e0, e1, e5, e9, e13, ed]
  have h14 : ((sealM u.body).getD 14 0).toNat = u.data.length := by
    have : ((((sealM u.body).getD 14 0).toNat : Nat) : Int) = (u.data.length : Int) := by
      unfold sealM UnitM.body wordBytes wordOf
      simp only [List.cons_append, List.nil_append, List.getD_cons_succ, List.getD_cons_zero]
      exact byteOf_nat (by omega) (by omega)
    omega
  rw [he]
  unfold decodeM
  rw [if_neg (by omega), if_neg (by omega), if_neg (by simp [hcrc])]
  simp only [hu, h14, h]
  simp
end Go.Proofs.YtbkkfkbgcklkgaaGreat
