/- The reference's sets (parapetref09): Lawful, Encode, Sign; what one sees (parapetref13.Same). -/
import Derived.Test.YtdiogamcjihejaaGreatRef02
import Derived.Test.YtdiogamcjihejaaGreatParam
import Derived.Test.YtdiogamcjihejaaGreatHostG
namespace Go.Proofs.YtdiogamcjihejaaGreat
open Go.RowKit
set_option maxHeartbeats 10000000
set_option maxRecDepth 100000

theorem r9lawful_any (p : ParM) (w : World) (ho : p.Ok) : Calls Tryz.prog 42 #[parVal p] w fun e w' => e = .returned (.bool p.lawful) ∧ Below w.heap.size w w' := by
  have hk := ho.code
  obtain ⟨code, out, inn, watch, count⟩ := p
  have hb : ∀ cs t, Below w.heap.size w (w.alloc (.cells cs t)) := fun cs t => (Below.refl _ _).alloc (Nat.le_refl _) _
  obtain ⟨law, Hlaw⟩ : ∃ b, Hid (b = (ParM.mk code out inn watch count).lawful) := ⟨_, Lib.hid rfl⟩
  rw [← Hlaw.out]
  have Hl2 : Hid (law = decide (code ≠ 0 ∧ 1 ≤ out ∧ out ≤ 8 ∧ 1 ≤ inn ∧ inn ≤ 8 ∧ 1 ≤ watch ∧ watch ≤ 1048576 ∧ 2 ≤ count)) := Lib.hid Hlaw.out
  clear Hlaw
  unfold parVal
  simp only at *
  have no : ∀ (q : Prop) [Decidable q], (law = decide q) → ¬ q → law = false := fun q _ h hn => by rw [h]; simpa using hn
  by_cases h1 : code ≤ 0
  · have hl := no _ Hl2.out (by omega)
    have hd : decide (0 < code) = false := by simp; omega
    subst hl
    go_enter Tryz.func42, Tryz.ntmps42
    go_wp2_with fail
    go_ret
    exact ⟨rfl, hb _ _⟩
  by_cases h2 : out < 1
  · have hl := no _ Hl2.out (by omega)
    subst hl
    go_enter Tryz.func42, Tryz.ntmps42
    go_wp2_with fail
    go_ret
    exact ⟨rfl, hb _ _⟩
  by_cases h3 : 8 < out
  · have hl := no _ Hl2.out (by omega)
    subst hl
    go_enter Tryz.func42, Tryz.ntmps42
    go_wp2_with fail
    go_ret
    exact ⟨rfl, hb _ _⟩
  by_cases h4 : inn < 1
  · have hl := no _ Hl2.out (by omega)
    subst hl
    go_enter Tryz.func42, Tryz.ntmps42
    go_wp2_with fail
    go_ret
    exact ⟨rfl, hb _ _⟩
  by_cases h5 : 8 < inn
  · have hl := no _ Hl2.out (by omega)
    subst hl
    go_enter Tryz.func42, Tryz.ntmps42
    go_wp2_with fail
    go_ret
    exact ⟨rfl, hb _ _⟩
  by_cases h6 : watch < 1
  · have hl := no _ Hl2.out (by omega)
    subst hl
    go_enter Tryz.func42, Tryz.ntmps42
    go_wp2_with fail
    go_ret
    exact ⟨rfl, hb _ _⟩
  by_cases h7 : 1048576 < watch
  · have hl := no _ Hl2.out (by omega)
    subst hl
    go_enter Tryz.func42, Tryz.ntmps42
    go_wp2_with fail
    go_ret
    exact ⟨rfl, hb _ _⟩
  · have hl : law = decide (2 ≤ count) := by rw [Hl2.out]; simp only [decide_eq_decide]; omega
    subst hl
    clear Hl2 no
    go_enter Tryz.func42, Tryz.ntmps42
    go_wp2_with fail
    go_ret
    exact ⟨rfl, hb _ _⟩
theorem r9encode_any (p : ParM) (w : World) (ho : p.Ok) (hl : p.lawful = true) :
    Calls Tryz.prog 113 #[parVal p] w fun e w' => ∃ v, e = .returned (.tuple #[v, .int .i64 0]) ∧ w'.ownsRow w.heap.size 5 1 v p.bytes.length (u8c p.bytes) ∧ Below w.heap.size w w' := by
  obtain ⟨i0, hi0, hz0, hz1, hz2⟩ := info_parts byte_info
  have hchk := fun w => r9lawful_any p w ho
  rw [hl] at hchk
  obtain ⟨bs, Hbs⟩ : ∃ b, Hid (b = p.bytes) := ⟨_, Lib.hid rfl⟩
  rw [← Hbs.out]
  have Hw : Hid (0 ≤ p.watch ∧ p.watch < 4294967296) := Lib.hid (by
    simp [ParM.lawful] at hl
    omega)
  obtain ⟨code, hcode⟩ := word_ex ho.code
  obtain ⟨count, hcount⟩ := word_ex ho.count
  obtain ⟨code', out, inn, watch, count'⟩ := p
  simp only at *
  subst hcode hcount
  obtain ⟨wt, hwt⟩ := word_ex Hw.out
  have Hb2 : Hid (bs = (wordOf code ++ [byteOf out, byteOf inn]) ++ wordOf wt ++ wordOf count) := Lib.hid (by
    rw [Hbs.out]
    unfold ParM.bytes
    simp only
    rw [hwt, wordBytes_nat, wordBytes_nat, wordBytes_nat])
  clear Hbs Hw hl ho
  subst hwt
  unfold parVal at *
  simp only at *
  have hwt1 : IntKind.u32.wrap (wt.toNat : Int) = (wt.toNat : Int) := by have := wt.isLt; exact IntWalk.u32_in _ (by omega)
  have hwt2 : (wt.toNat : Int) % 4294967296 = (wt.toNat : Int) := by have := wt.isLt; omega
  go_enter Tryz.func113, Tryz.ntmps113
  go_wp2_with fail
  refine (hchk _).mono ?_
  rintro e w1 ⟨rfl, hb1⟩
  have hB1 := (Blk.new w 30 #[u32v code, .int .i64 out, .int .i64 inn, .int .i64 (wt.toNat : Int), u32v count]).below hb1 (by simp)
  have hbW : Below w.heap.size w w1 := ((Below.refl _ _).alloc (Nat.le_refl _) _).trans (hb1.mono (by simp))
  have hn1 := hbW.size
  have hlt1 := hB1.lt
  have hc1 := hB1.cell
  have hc1a : ∀ o i, (w1.alloc o).cell? ⟨w.heap.size, i, none⟩ = (#[u32v code, .int .i64 out, .int .i64 inn, .int .i64 (wt.toNat : Int), u32v count] : Array Value)[i]? := fun o i => (hB1.alloc o).cell i
  have hown0 : (w1.alloc (.cells #[] 5)).ownsRow w1.heap.size 5 1 (.slice (some ⟨w1.heap.size, 0, none⟩) 0 0) 0 (u8c []) := World.ownsRow_made w1 #[] 0 (Nat.le_refl _) (by unfold maxLen; omega) rfl
  clear hb1 hchk
  go_wp2_with fail
  refine (rword_any code _).mono ?_
  rintro e w2 ⟨v2, rfl, hw2, hb2⟩
  obtain ⟨A2, c2, rfl⟩ := own_slice hw2
  replace hB1 := (hB1.alloc (.cells #[] 5)).below hb2 (hB1.alloc _).lt
  replace hbW := (hbW.alloc hbW.size (.cells #[] 5)).trans (hb2.mono (by simp; omega))
  have hown := own_below hown0 hb2
  have hsz : w1.heap.size ≤ w2.heap.size := by have := hb2.size; simp at this; omega
  have hlt2 := hown.lt
  clear hb2 hown0 hc1 hc1a
  go_wp2_with (first
    | (at_builtin; refine wpList_append_any _ rfl (.tmp 8) (.tmp 11) _ rfl w1.heap.size 5 i0 _ 1 1 Tryz.underlying22 hi0 hz0 hz1 hz2 rfl (by omega) (.slice (some ⟨w1.heap.size, 0, none⟩) 0 0) 0 (u8c []) rfl hown w2.heap.size A2 4 c2 (u8c (wordOf code)) rfl (Reads.of_own hw2) (u8c_one _) (by unfold maxLen; omega) (by omega) hsz ?_; intro v3 w3 hown3 hg3 hat3; rw [← u8c_append] at hown3; simp only [Nat.zero_add, List.nil_append] at hown3; obtain ⟨A3, c3, rfl⟩ := own_slice hown3; have hB3 := hB1.grown hg3 (fun h => by have := (hlt2 _ h).1; omega); have hc3 := hB3.cell; have hbW3 := hbW.grown hg3 hbW.size (fun g h => by have := (hlt2 g h).1; omega); have hsz3 := Nat.le_trans hsz hg3.size; have hlt3 := hown3.lt)
    | (at_builtin; refine wpList_append_any _ rfl (.tmp 13) (.tmp 20) _ rfl w1.heap.size 5 i0 _ 1 1 Tryz.underlying22 hi0 hz0 hz1 hz2 rfl (by omega) (.slice A3 4 c3) 4 (u8c (wordOf code)) rfl (hown3.alloc _) (w3.heap.size + 1) (some ⟨w3.heap.size, 0, none⟩) 2 2 (u8c [byteOf out, byteOf inn]) rfl (by simpa using byte_pair (Blk.new w3 5 _)) (u8c_one _) (by unfold maxLen; omega) (by omega) (by simp; omega) ?_; intro v4 w4 hown4 hg4 hat4; rw [← u8c_append] at hown4; simp only [Nat.reduceAdd] at hown4; obtain ⟨A4, c4, rfl⟩ := own_slice hown4; have hB4 := (hB3.alloc _).grown hg4 (fun h => by have := (hlt3 _ h).1; omega); have hc4 := hB4.cell; have hbW4 := (hbW3.alloc hbW3.size _).grown hg4 (by have := hbW3.size; simp; omega) (fun k hk => by have := (hlt3 k hk).1; omega); have hs4 := hg4.size; have hsz4 : w1.heap.size ≤ w4.heap.size := by simp at hs4; omega))
  refine (rword_any wt _).mono ?_
  rintro e w5 ⟨v5, rfl, hw5, hb5⟩
  obtain ⟨A5, c5, rfl⟩ := own_slice hw5
  have hB5 := hB4.below hb5 hB4.lt
  have hbW5 := hbW4.trans (hb5.mono hbW4.size)
  have hown5 := own_below hown4 hb5
  have hsz5 := Nat.le_trans hsz4 hb5.size
  have hlt5 := hown5.lt
  clear hc3 hc4 hs4
  go_wp2_with (at_builtin; refine wpList_append_any _ rfl (.tmp 22) (.tmp 26) _ rfl w1.heap.size 5 i0 _ 1 1 Tryz.underlying22 hi0 hz0 hz1 hz2 rfl (by omega) (.slice A4 6 c4) 6 (u8c (wordOf code ++ [byteOf out, byteOf inn])) rfl hown5 w5.heap.size A5 4 c5 (u8c (wordOf wt)) rfl (Reads.of_own hw5) (u8c_one _) (by unfold maxLen; omega) (by omega) hsz5 ?_; intro v6 w6 hown6 hg6 hat6; rw [← u8c_append] at hown6; simp only [Nat.reduceAdd] at hown6; obtain ⟨A6, c6, rfl⟩ := own_slice hown6; have hB6 := hB5.grown hg6 (fun h => by have := (hlt5 _ h).1; omega); have hc6 := hB6.cell; have hbW6 := hbW5.grown hg6 hbW5.size (fun g h => by have := (hlt5 g h).1; omega); have hsz6 := Nat.le_trans hsz5 hg6.size)
  refine (rword_any count _).mono ?_
  rintro e w7 ⟨v7, rfl, hw7, hb7⟩
  obtain ⟨A7, c7, rfl⟩ := own_slice hw7
  have hbW7 := hbW6.trans (hb7.mono hbW6.size)
  have hown7 := own_below hown6 hb7
  have hsz7 := Nat.le_trans hsz6 hb7.size
  have hlt7 := hown7.lt
  clear hc6
  go_wp2_with (at_builtin; refine wpList_append_any _ rfl (.tmp 28) (.tmp 31) _ rfl w1.heap.size 5 i0 _ 1 1 Tryz.underlying22 hi0 hz0 hz1 hz2 rfl (by omega) (.slice A6 10 c6) 10 (u8c (wordOf code ++ [byteOf out, byteOf inn] ++ wordOf wt)) rfl hown7 w7.heap.size A7 4 c7 (u8c (wordOf count)) rfl (Reads.of_own hw7) (u8c_one _) (by unfold maxLen; omega) (by omega) hsz7 ?_; intro v8 w8 hown8 hg8 hat8; rw [← u8c_append] at hown8; simp only [Nat.reduceAdd] at hown8; obtain ⟨A8, c8, rfl⟩ := own_slice hown8; have hbW8 := hbW7.grown hg8 hbW7.size (fun g h => by have := (hlt7 g h).1; omega))
  refine bodyPost_ret (v := .tuple #[.slice A8 14 c8, .int .i64 0]) (by simp [results, Tryz.results113, go_sem]) rfl ⟨_, rfl, ?_, hbW8⟩
  rw [Hb2.out]
  have hlen : ((wordOf code ++ [byteOf out, byteOf inn]) ++ wordOf wt ++ wordOf count).length = 14 := by simp [wordOf]
  rw [hlen]
  exact own_base hown8 hn1
theorem r9sign_any (p : ParM) (w : World) (ho : p.Ok) (hl : p.lawful = true) :
    Calls Tryz.prog 59 #[parVal p] w fun e w' => ∃ v, e = .returned v ∧ w'.ownsRow w.heap.size 5 1 v 4 (u8c p.sign) ∧ Below w.heap.size w w' := by
  have henc := fun w => r9encode_any p w ho hl
  have hs : p.sign = wordOf (crcOf 0#32 p.bytes) := rfl
  obtain ⟨bs, Hbs⟩ : ∃ b, Hid (b = p.bytes) := ⟨_, Lib.hid rfl⟩
  rw [hs]
  rw [← Hbs.out] at henc ⊢
  have hlen : bs.length = 14 := by rw [Hbs.out]; simp [ParM.bytes, wordBytes, wordOf]
  rw [hlen] at henc
  have Hlen := Lib.hid hlen
  clear hlen hl ho hs
  obtain ⟨code, out, inn, watch, count⟩ := p
  unfold parVal at *
  simp only at *
  go_enter Tryz.func59, Tryz.ntmps59
  go_wp2_with fail
  refine (henc _).mono ?_
  rintro e w1 ⟨v, rfl, hown, hb1⟩
  obtain ⟨A, c, rfl⟩ := own_slice hown
  have hb1' : Below w.heap.size w w1 := ((Below.refl _ _).alloc (Nat.le_refl _) _).trans (hb1.mono (by simp))
  go_wp2_with fail
  refine (rsum_any A 14 c bs _ w1 (Reads.of_own hown) (Nat.le_refl _) (by omega)).mono ?_
  rintro e w2 ⟨rfl, hb2⟩
  have hb2' := hb1'.trans (hb2.mono hb1'.size)
  go_wp2_with fail
  refine (rword_any _ w2).mono ?_
  rintro e w3 ⟨v3, rfl, hown3, hb3⟩
  go_wp2_with fail
  go_ret
  exact ⟨_, rfl, own_base hown3 hb2'.size, hb2'.trans (hb3.mono hb2'.size)⟩
end Go.Proofs.YtdiogamcjihejaaGreat
