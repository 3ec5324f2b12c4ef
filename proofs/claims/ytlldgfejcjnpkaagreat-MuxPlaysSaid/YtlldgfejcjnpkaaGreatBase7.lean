/- The base of the laws, part 7: contracts and plain lemmas, no statement. -/
import Derived.Test.YtlldgfejcjnpkaaGreatBase1
import Derived.Test.YtlldgfejcjnpkaaGreatBase2
import Derived.Test.YtlldgfejcjnpkaaGreatBase5
import Derived.Test.YtlldgfejcjnpkaaGreatBase6
import Derived.Deep.RegionHeld3
import Derived.DataShut
set_option linter.unusedVariables false
/- unit.Encode and unit.Decode by their contracts. -/
namespace Go.Proofs.YtlldgfejcjnpkaaGreat
open Go.RowKit
set_option maxHeartbeats 10000000
set_option maxRecDepth 100000

theorem byteOf_val (n : Int) : ((byteOf n).toNat : Int) = n % 256 := by
  unfold byteOf UInt8.toNat
  simp [BitVec.toNat_ofInt]
  omega
theorem word_ex {n : Int} (h : 0 ≤ n ∧ n < 4294967296) : ∃ s : BitVec 32, n = (s.toNat : Int) := ⟨BitVec.ofInt 32 n, by simp [BitVec.toNat_ofInt]; omega⟩
theorem wordBytes_nat (s : BitVec 32) : wordBytes (s.toNat : Int) = wordOf s := by unfold wordBytes; rw [ofInt_nat]
/-- The numbers of a unit are in range. -/
structure UnitM.Ok (u : UnitM) : Prop where
  code : 0 ≤ u.code ∧ u.code < 4294967296
  session : 0 ≤ u.session ∧ u.session < 4294967296
  number : 0 ≤ u.number ∧ u.number < 4294967296
theorem UnitM.lawful_len {u : UnitM} (h : u.lawful = 0) : u.data.length ≤ 8 := by
  unfold UnitM.lawful at h
  split at h
  · cases h
  split at h
  · cases h
  split at h
  · cases h
  rename_i h1 _
  have h2 : dataOk u.kind u.data.length = true := by simpa using ‹¬ (!dataOk u.kind u.data.length) = true›
  unfold dataOk at h2
  split at h2
  · simp at h2; omega
  split at h2
  · simp at h2; omega
  · simp at h2; simp [h2]
theorem two_reads {w : World} {g : Nat} {t : TypeId} {a : Int} {n : Nat} (hn : n < 256) (h : Blk w g t #[Value.int .u8 (a % 256), .int .u8 (n : Int)]) : Reads w w.heap.size 1 (some ⟨g, 0, none⟩) 2 (u8c [byteOf a, byteOf n]) := by
  have hr := Reads.of_blk h (B := w.heap.size) (size := 1) (n := 2) h.lt rfl
  have e : u8c [byteOf a, byteOf n] = #[Value.int .u8 (a % 256), .int .u8 (n : Int)].toList := by
    simp only [u8c, List.map_cons, List.map_nil, byteOf_val]
    rw [show (n : Int) % 256 = n by omega]
  rw [e]
  exact hr
theorem unitEncode_any (u : UnitM) (A : Option Addr) (c B : Nat) (w : World) (ho : u.Ok) (hr : Reads w B 1 A u.data.length (u8c u.data)) (hB : B ≤ w.heap.size) :
    Calls Tryz.prog 213 #[unitVal u (.slice A u.data.length c)] w fun e w' => ∃ v, e = .returned (.tuple #[v, .int .i64 u.lawful]) ∧ w'.ownsRow w.heap.size 5 1 v u.encode.length (u8c u.encode) ∧ Below w.heap.size w w' := by
  obtain ⟨i0, hi0, hz0, hz1, hz2⟩ := info_parts byte_info
  have hlaw := fun w => unitLawful_any u A c w ho.session.1 ho.number.1
  have hlen := @UnitM.lawful_len u
  obtain ⟨code, hcode⟩ := word_ex ho.code
  obtain ⟨session, hsession⟩ := word_ex ho.session
  obtain ⟨number, hnumber⟩ := word_ex ho.number
  have henc : u.encode = if u.lawful = 0 then sealM (([byteOf u.kind] ++ wordOf code ++ wordOf session ++ wordOf number ++ [byteOf u.flags, byteOf u.data.length]) ++ u.data) else [] := by
    unfold UnitM.encode UnitM.body
    rw [hcode, hsession, hnumber, wordBytes_nat, wordBytes_nat, wordBytes_nat]
  obtain ⟨enc, he⟩ : ∃ enc, enc = u.encode := ⟨_, rfl⟩
  rw [← he]
  rw [← he] at henc
  clear he
  generalize u.lawful = law at *
  obtain ⟨kind, code', session', number', flags, data⟩ := u
  simp only at *
  subst hcode hsession hnumber
  unfold unitVal at *
  simp only at *
  have Henc := Lib.hid henc
  clear henc ho
  go_enter Tryz.func213, Tryz.ntmps213
  go_wp2_with fail
  refine (hlaw _).mono ?_
  rintro e w1 ⟨rfl, hb1⟩
  have hb1' : Below w.heap.size w w1 := ((Below.refl _ _).alloc (Nat.le_refl _) _).trans (hb1.mono (by simp))
  by_cases hl : law = 0
  · subst hl
    have hd8 := hlen rfl
    have hB1 := (Blk.new w 64 #[Value.int .i64 kind, u32v code, u32v session, u32v number, .int .i64 flags, .slice A data.length c]).below hb1 (by simp)
    clear hb1 hlen hlaw
    have hc1 : ∀ i, w1.cell? ⟨w.heap.size, i, none⟩ = (#[Value.int .i64 kind, u32v code, u32v session, u32v number, .int .i64 flags, .slice A data.length c] : Array Value)[i]? := hB1.cell
    have hr1 := hr.below (hb1'.mono hB)
    have hn1 := hb1'.size
    have hlt1 := hB1.lt
    have hBl : B ≤ w1.heap.size := by omega
    have hkind : (u8c [byteOf kind]).toArray = #[Value.int .u8 (kind % 256)] := by simp [u8c, byteOf_val]
    have hown : (w1.alloc (.cells #[Value.int .u8 (kind % 256)] 5)).ownsRow w1.heap.size 5 1 (.slice (some ⟨w1.heap.size, 0, none⟩) 1 1) 1 (u8c [byteOf kind]) := by
      have := own_full w1 #[Value.int .u8 (kind % 256)] 5 w1.heap.size (Nat.le_refl _) (by simp [maxLen])
      rw [← hkind] at this ⊢
      exact this
    have hbW : Below w.heap.size w (w1.alloc (.cells #[Value.int .u8 (kind % 256)] 5)) := hb1'.alloc hn1 _
    have hsz : w1.heap.size ≤ (w1.alloc (.cells #[Value.int .u8 (kind % 256)] 5)).heap.size := by simp
    replace hB1 := hB1.alloc (.cells #[Value.int .u8 (kind % 256)] 5)
    replace hr1 := hr1.alloc hBl (.cells #[Value.int .u8 (kind % 256)] 5)
    clear hb1' hkind hr
    go_wp2_with fail
    replace hown := own_below hown (Below.refl _ _).drew
    replace hB1 := hB1.drew
    replace hr1 := hr1.drew
    replace hbW := hbW.drew
    go_region_held3 (fun w' => w'.cell? ⟨w.heap.size, 1, none⟩ = some (u32v code) ∧ w'.cell? ⟨w.heap.size, 2, none⟩ = some (u32v session) ∧ w'.cell? ⟨w.heap.size, 3, none⟩ = some (u32v number)) (exact ⟨(hB1.cell 1).trans rfl, (hB1.cell 2).trans rfl, (hB1.cell 3).trans rfl⟩) (first
      | (go_at_call 223; refine (unitPut_any _ _ _ _ w1.heap.size _ hown hsz (by omega)).mono ?_; rintro e W ⟨v, rfl, hown2, hbe⟩; clear hown; have hown := hown2; clear hown2; obtain ⟨Av, cv, rfl⟩ := own_slice hown; replace hsz := Nat.le_trans hsz hbe.size; replace hB1 := hB1.below hbe hlt1; replace hr1 := hr1.below (hbe.mono hBl); replace hbW := hbW.trans (hbe.mono hn1); clear hbe))
    have hcW : ∀ o i, (W.alloc o).cell? ⟨w.heap.size, i, none⟩ = (#[Value.int .i64 kind, u32v code, u32v session, u32v number, .int .i64 flags, .slice A data.length c] : Array Value)[i]? := fun o i => (hB1.alloc o).cell i
    have hcW0 : ∀ i, W.cell? ⟨w.heap.size, i, none⟩ = (#[Value.int .i64 kind, u32v code, u32v session, u32v number, .int .i64 flags, .slice A data.length c] : Array Value)[i]? := hB1.cell
    have hltW := hown.lt
    have hws := hbW.size
    clear hc1
    go_wp2_with (first
      | (at_builtin; refine wpList_append_any _ rfl (.tmp 25) (.tmp 33) _ rfl w1.heap.size 5 i0 _ 1 1 Tryz.underlying22 hi0 hz0 hz1 hz2 rfl (by omega) (.slice Av 13 cv) 13 (u8c ([byteOf kind] ++ wordOf code ++ wordOf session ++ wordOf number)) rfl (hown.alloc _) (W.heap.size + 1) (some ⟨W.heap.size, 0, none⟩) 2 2 (u8c [byteOf flags, byteOf data.length]) rfl (by simpa using two_reads (by omega) (Blk.new W 5 _)) (u8c_one _) (by unfold maxLen; omega) (by omega) (by simp; omega) ?_; intro v2 w2 hown2 hg2 hat2; have hB2 := (hB1.alloc _).grown hg2 (fun h => by have := (hltW _ h).1; omega); have hc2 := hB2.cell; have hr2 := (hr1.alloc (by omega) _).grown hg2 (by simp; omega) (fun g h => by have := (hltW g h).1; omega); have hs2 := hg2.size; have hlt2 := hown2.lt; have hbW2 := (hbW.alloc hws _).grown hg2 (by simp; omega) (fun k hk => by have := (hltW k hk).1; omega); rw [← u8c_append] at hown2)
      | (at_builtin; refine wpList_append_any _ rfl (.tmp 35) (.tmp 37) _ rfl w1.heap.size 5 i0 _ 1 1 Tryz.underlying22 hi0 hz0 hz1 hz2 rfl (by omega) _ 15 _ rfl hown2 B A data.length c (u8c data) rfl hr2 (u8c_one _) (by unfold maxLen; omega) (by omega) (by simp at hs2; omega) ?_; intro v3 w3 hown3 hg3 hat3; have hbW3 := hbW2.grown hg3 (by simp at hs2; omega) (fun k hk => by have := (hlt2 k hk).1; omega); rw [← u8c_append] at hown3; obtain ⟨A3, c3, rfl⟩ := own_slice hown3))
    have hw3 := hbW3.size
    refine (crcSeal_any A3 _ c3 _ w3.heap.size w3 (fun h => ?_) (Reads.of_own hown3) (Nat.le_refl _) (by omega)).mono ?_
    · subst h
      rcases hown3.2 with ⟨hx, _⟩ | ⟨_, _, _, hx, _⟩
      · injection hx
      · injection hx with hx; cases hx
    rintro e w4 ⟨v4, rfl, hown4, hb4⟩
    go_wp2_with fail
    refine bodyPost_ret (v := .tuple #[v4, .int .i64 0]) (by simp [results, Tryz.results213, go_sem]) rfl ⟨_, rfl, ?_, hbW3.trans (hb4.mono hw3)⟩
    rw [Henc.out, if_pos trivial]
    have hlen : (sealM ([byteOf kind] ++ wordOf code ++ wordOf session ++ wordOf number ++ [byteOf flags, byteOf data.length] ++ data)).length = 15 + data.length + 4 := by
      simp [sealM, wordOf]; omega
    rw [hlen]
    exact own_base hown4 hw3
  · have g1 : (law != 0) = true := by simpa using hl
    have hnil : enc = [] := by rw [Henc.out, if_neg hl]
    subst hnil
    go_wp2_with fail
    refine bodyPost_ret (v := .tuple #[.slice none 0 0, .int .i64 law]) (by simp [results, Tryz.results213, go_sem]) rfl ⟨_, rfl, World.ownsRow_nil _ _ _ _, hb1'⟩
end Go.Proofs.YtlldgfejcjnpkaaGreat
/- param's functions by their contracts. -/
namespace Go.Proofs.YtlldgfejcjnpkaaGreat
open Go.RowKit
set_option maxHeartbeats 10000000
set_option maxRecDepth 100000

def parVal (p : ParM) : Value := .agg #[.int .u32 p.code, .int .i64 p.out, .int .i64 p.inn, .int .i64 p.watch, .int .u32 p.count]
structure ParM.Ok (p : ParM) : Prop where
  code : 0 ≤ p.code ∧ p.code < 4294967296
  count : 0 ≤ p.count ∧ p.count < 4294967296
theorem paramCheck_any (p : ParM) (w : World) : Calls Tryz.prog 46 #[parVal p] w fun e w' => e = .returned (.int .i64 (if p.lawful then 0 else 90)) ∧ Below w.heap.size w w' := by
  obtain ⟨code, out, inn, watch, count⟩ := p
  have hb : ∀ cs t, Below w.heap.size w (w.alloc (.cells cs t)) := fun cs t => (Below.refl _ _).alloc (Nat.le_refl _) _
  obtain ⟨law, Hlaw⟩ : ∃ b, Hid (b = (ParM.mk code out inn watch count).lawful) := ⟨_, Lib.hid rfl⟩
  rw [← Hlaw.out]
  have Hl2 : Hid (law = decide (code ≠ 0 ∧ 1 ≤ out ∧ out ≤ 8 ∧ 1 ≤ inn ∧ inn ≤ 8 ∧ 1 ≤ watch ∧ watch ≤ 1048576 ∧ 2 ≤ count)) := Lib.hid Hlaw.out
  clear Hlaw
  unfold parVal
  simp only
  have no : ∀ (q : Prop) [Decidable q], (law = decide q) → ¬ q → law = false := fun q _ h hn => by rw [h]; simpa using hn
  by_cases h1 : code = 0
  · have hl := no _ Hl2.out (by omega)
    subst hl h1
    go_enter Tryz.func46, Tryz.ntmps46
    go_wp2_with fail
    go_ret
    exact ⟨rfl, hb _ _⟩
  have g1 : (code == 0) = false := by simpa using h1
  by_cases h2 : out < 1
  · have hl := no _ Hl2.out (by omega)
    subst hl
    go_enter Tryz.func46, Tryz.ntmps46
    go_wp2_with fail
    go_ret
    exact ⟨rfl, hb _ _⟩
  by_cases h3 : 8 < out
  · have hl := no _ Hl2.out (by omega)
    subst hl
    go_enter Tryz.func46, Tryz.ntmps46
    go_wp2_with fail
    go_ret
    exact ⟨rfl, hb _ _⟩
  by_cases h4 : inn < 1
  · have hl := no _ Hl2.out (by omega)
    subst hl
    go_enter Tryz.func46, Tryz.ntmps46
    go_wp2_with fail
    go_ret
    exact ⟨rfl, hb _ _⟩
  by_cases h5 : 8 < inn
  · have hl := no _ Hl2.out (by omega)
    subst hl
    go_enter Tryz.func46, Tryz.ntmps46
    go_wp2_with fail
    go_ret
    exact ⟨rfl, hb _ _⟩
  by_cases h6 : watch < 1
  · have hl := no _ Hl2.out (by omega)
    subst hl
    go_enter Tryz.func46, Tryz.ntmps46
    go_wp2_with fail
    go_ret
    exact ⟨rfl, hb _ _⟩
  by_cases h7 : 1048576 < watch
  · have hl := no _ Hl2.out (by omega)
    subst hl
    go_enter Tryz.func46, Tryz.ntmps46
    go_wp2_with fail
    go_ret
    exact ⟨rfl, hb _ _⟩
  by_cases h8 : count < 2
  · have hl := no _ Hl2.out (by omega)
    subst hl
    go_enter Tryz.func46, Tryz.ntmps46
    go_wp2_with fail
    go_ret
    exact ⟨rfl, hb _ _⟩
  · have hl : law = true := by rw [Hl2.out]; simp; omega
    subst hl
    go_enter Tryz.func46, Tryz.ntmps46
    go_wp2_with fail
    go_ret
    exact ⟨rfl, hb _ _⟩
theorem byte_pair {w : World} {g : Nat} {t : TypeId} {a b : Int} (h : Blk w g t #[Value.int .u8 (a % 256), .int .u8 (b % 256)]) : Reads w w.heap.size 1 (some ⟨g, 0, none⟩) 2 (u8c [byteOf a, byteOf b]) := by
  have hr := Reads.of_blk h (B := w.heap.size) (size := 1) (n := 2) h.lt rfl
  have e : u8c [byteOf a, byteOf b] = #[Value.int .u8 (a % 256), .int .u8 (b % 256)].toList := by
    simp only [u8c, List.map_cons, List.map_nil, byteOf_val]
  rw [e]
  exact hr
theorem paramEncode_any (p : ParM) (w : World) (ho : p.Ok) :
    Calls Tryz.prog 221 #[parVal p] w fun e w' => ∃ v, e = .returned (.tuple #[v, .int .i64 (if p.lawful then 0 else 90)]) ∧ w'.ownsRow w.heap.size 5 1 v (if p.lawful then p.bytes else []).length (u8c (if p.lawful then p.bytes else [])) ∧ Below w.heap.size w w' := by
  obtain ⟨i0, hi0, hz0, hz1, hz2⟩ := info_parts byte_info
  have hchk := paramCheck_any p
  cases hlaw : p.lawful with
  | false =>
    rw [hlaw] at hchk
    unfold parVal at *
    go_enter Tryz.func221, Tryz.ntmps221
    go_wp2_with fail
    refine (hchk _).mono ?_
    rintro e w1 ⟨rfl, hb1⟩
    go_wp2_with fail
    refine bodyPost_ret (v := .tuple #[.slice none 0 0, .int .i64 90]) (by simp [results, Tryz.results221, go_sem]) rfl ⟨_, rfl, World.ownsRow_nil _ _ _ _, ((Below.refl _ _).alloc (Nat.le_refl _) _).trans (hb1.mono (by simp))⟩
  | true =>
    rw [hlaw] at hchk
    obtain ⟨bs, Hbs⟩ : ∃ b, Hid (b = p.bytes) := ⟨_, Lib.hid rfl⟩
    simp only [if_true]
    rw [← Hbs.out]
    have Hw : Hid (0 ≤ p.watch ∧ p.watch < 4294967296) := Lib.hid (by
      simp [ParM.lawful] at hlaw
      omega)
    obtain ⟨code, hcode⟩ := word_ex ho.code
    obtain ⟨count, hcount⟩ := word_ex ho.count
    obtain ⟨code', out, inn, watch, count'⟩ := p
    simp only at *
    subst hcode hcount
    obtain ⟨wt, hwt⟩ := word_ex Hw.out
    have Hb2 : Hid (bs = (wordOf code ++ [byteOf out, byteOf inn]) ++ wordOf wt ++ wordOf count) := Lib.hid (by
      rw [Hbs.out]
      unfold ParM.bytes
      simp only
      rw [hwt, wordBytes_nat, wordBytes_nat, wordBytes_nat])
    clear Hbs Hw hlaw ho
    subst hwt
    unfold parVal at *
    simp only at *
    go_enter Tryz.func221, Tryz.ntmps221
    go_wp2_with fail
    refine (hchk _).mono ?_
    rintro e w1 ⟨rfl, hb1⟩
    have hB1 := (Blk.new w 36 #[u32v code, .int .i64 out, .int .i64 inn, .int .i64 (wt.toNat : Int), u32v count]).below hb1 (by simp)
    have hb1' : Below w.heap.size w w1 := ((Below.refl _ _).alloc (Nat.le_refl _) _).trans (hb1.mono (by simp))
    have hn1 := hb1'.size
    have hlt1 := hB1.lt
    have hc1 := hB1.cell
    clear hb1 hchk
    go_wp2_with fail
    refine (paramWord_any (.slice none 0 0) 0 [] code w1.heap.size w1 (World.ownsRow_nil _ _ _ _) (Nat.le_refl _) (by omega)).mono ?_
    rintro e w2 ⟨v2, rfl, hown2, hb2⟩
    obtain ⟨A2, c2, rfl⟩ := own_slice hown2
    have hB2 := hB1.below hb2 hlt1
    have hc2 := hB2.cell
    have hb2' := hb1'.trans (hb2.mono hn1)
    have hn2 := hb2.size
    have hl2 := hown2.lt
    clear hc1
    go_wp2_with (at_builtin; refine wpList_append_any _ rfl (.tmp 14) (.tmp 21) _ rfl w1.heap.size 5 i0 _ 1 1 Tryz.underlying22 hi0 hz0 hz1 hz2 rfl (by omega) (.slice A2 4 c2) 4 (u8c ([] ++ wordOf code)) rfl (hown2.alloc _) (w2.heap.size + 1) (some ⟨w2.heap.size, 0, none⟩) 2 2 (u8c [byteOf out, byteOf inn]) rfl (by simpa using byte_pair (Blk.new w2 5 _)) (u8c_one _) (by unfold maxLen; omega) (by omega) (by simp; omega) ?_; intro v3 w3 hown3 hg3 hat3)
    have hB3 := (hB2.alloc _).grown hg3 (fun h => by have := (hl2 _ h).1; omega)
    have hs3 := hg3.size
    have hsz : w1.heap.size ≤ w3.heap.size := by simp at hs3; omega
    have hbW := (hb2'.alloc hb2'.size _).grown hg3 (by have := hb2'.size; simp; omega) (fun k hk => by have := (hl2 k hk).1; omega)
    rw [← u8c_append] at hown3
    obtain ⟨A3, c3, rfl⟩ := own_slice hown3
    have hwt : IntKind.u32.wrap (wt.toNat : Int) = (wt.toNat : Int) := by have := wt.isLt; exact IntWalk.u32_in _ (by omega)
    have hwt2 : (wt.toNat : Int) % 4294967296 = (wt.toNat : Int) := by have := wt.isLt; omega
    clear hB2 hc2 hb2' hown2 hl2 hg3 hat3 hs3 hb2 hn2 hB1 hb1'
    replace hown3 := own_below hown3 (Below.refl _ _).drew
    replace hB3 := hB3.drew
    replace hbW := hbW.drew
    replace hsz : w1.heap.size ≤ w3.drew.heap.size := hsz
    go_region_held3 (fun w' => w'.cell? ⟨w.heap.size, 3, none⟩ = some (.int .i64 (wt.toNat : Int)) ∧ w'.cell? ⟨w.heap.size, 4, none⟩ = some (u32v count)) (exact ⟨(hB3.cell 3).trans rfl, (hB3.cell 4).trans rfl⟩) (first
      | (go_at_call 222; refine (paramWord_any _ _ _ _ w1.heap.size _ hown3 hsz (by omega)).mono ?_; rintro e W ⟨v, rfl, hownN, hbe⟩; clear hown3; have hown3 := hownN; clear hownN; obtain ⟨Av, cv, rfl⟩ := own_slice hown3; replace hsz := Nat.le_trans hsz hbe.size; replace hB3 := hB3.below hbe hlt1; replace hbW := hbW.trans (hbe.mono hn1); clear hbe))
    go_wp2_with fail
    refine bodyPost_ret (v := .tuple #[.slice Av 14 cv, .int .i64 0]) (by simp [results, Tryz.results221, go_sem]) rfl ⟨_, rfl, ?_, hbW⟩
    rw [Hb2.out]
    have hlen : ((wordOf code ++ [byteOf out, byteOf inn]) ++ wordOf wt ++ wordOf count).length = 14 := by simp [wordOf]
    rw [hlen]
    exact own_base hown3 hn1
theorem paramSignature_any (p : ParM) (w : World) (ho : p.Ok) (hl : p.lawful = true) :
    Calls Tryz.prog 208 #[parVal p] w fun e w' => e = .returned (.tuple #[u32v (crcOf 0#32 p.bytes), .int .i64 0]) ∧ Below w.heap.size w w' := by
  have henc := fun w => paramEncode_any p w ho
  obtain ⟨bs, Hbs⟩ : ∃ b, Hid (b = p.bytes) := ⟨_, Lib.hid rfl⟩
  rw [hl] at henc
  simp only [if_true] at henc
  rw [← Hbs.out] at henc ⊢
  have hlen : bs.length = 14 := by rw [Hbs.out]; simp [ParM.bytes, wordBytes, wordOf]
  rw [hlen] at henc
  have Hlen := Lib.hid hlen
  clear hlen hl ho
  obtain ⟨code, out, inn, watch, count⟩ := p
  unfold parVal at *
  simp only at *
  go_enter Tryz.func208, Tryz.ntmps208
  go_wp2_with fail
  refine (henc _).mono ?_
  rintro e w1 ⟨v, rfl, hown, hb1⟩
  obtain ⟨A, c, rfl⟩ := own_slice hown
  have hb1' : Below w.heap.size w w1 := ((Below.refl _ _).alloc (Nat.le_refl _) _).trans (hb1.mono (by simp))
  go_wp2_with fail
  refine (crcBits_any A 14 c bs _ w1 (Reads.of_own hown) (by omega)).mono ?_
  rintro e w2 ⟨rfl, rfl⟩
  go_wp2_with fail
  refine bodyPost_ret (v := .tuple #[u32v (crcOf 0#32 bs), .int .i64 0]) (by simp [results, Tryz.results208, go_sem]) rfl ⟨rfl, hb1'⟩
theorem paramBytes_any (s : BitVec 32) (w : World) : Calls Tryz.prog 211 #[u32v s] w fun e w' => ∃ v, e = .returned v ∧ w'.ownsRow w.heap.size 5 1 v 4 (u8c (wordOf s)) ∧ Below w.heap.size w w' := by
  go_enter Tryz.func211, Tryz.ntmps211
  go_wp2_with fail
  refine (paramWord_any (.slice none 0 0) 0 [] s w.heap.size w (World.ownsRow_nil _ _ _ _) (Nat.le_refl _) (by omega)).mono ?_
  rintro e w2 ⟨v2, rfl, hown2, hb2⟩
  go_wp2_with fail
  go_ret
  exact ⟨_, rfl, hown2, hb2⟩
theorem sign_iff (p : ParM) (a b c d : UInt8) : ([a, b, c, d] = p.sign) ↔ ofWord a b c d = crcOf 0#32 p.bytes := ofWord_inj.symm
theorem paramMatch_any (p : ParM) (A : Option Addr) (n c B : Nat) (l : List UInt8) (w : World) (ho : p.Ok) (hl : p.lawful = true) (hr : Reads w B 1 A n (u8c l)) (hB : B ≤ w.heap.size) (hn : n ≤ 1000) :
    Calls Tryz.prog 183 #[parVal p, .slice A n c] w fun e w' => e = .returned (.tuple #[.bool (decide (l = p.sign)), .int .i64 0]) ∧ Below w.heap.size w w' := by
  have hlen : l.length = n := by have := hr.1; simpa [u8c] using this
  have hsig := fun w => paramSignature_any p w ho hl
  obtain ⟨ok, Hok⟩ : ∃ b, Hid (b = decide (l = p.sign)) := ⟨_, Lib.hid rfl⟩
  rw [← Hok.out]
  have Hs := Lib.hid (sign_iff p)
  have hsl : p.sign.length = 4 := by simp [ParM.sign, wordOf]
  have hno : n ≠ 4 → ok = false := fun h => by
    rw [Hok.out]
    simp only [decide_eq_false_iff_not]
    intro e
    rw [e, hsl] at hlen
    exact h hlen.symm
  have hyes : ∀ a b c d, l = [a, b, c, d] → ok = decide (ofWord a b c d = crcOf 0#32 p.bytes) := fun a b c d e => by
    rw [Hok.out, e]
    exact decide_eq_decide.2 (sign_iff p a b c d)
  clear Hok Hs hsl hl ho
  generalize crcOf 0#32 p.bytes = sg at *
  obtain ⟨code, out, inn, watch, count⟩ := p
  unfold parVal at *
  simp only at *
  by_cases h4 : n = 4
  · subst h4
    obtain ⟨ad, rfl⟩ : ∃ ad, A = some ad := by
      obtain ⟨ad, h, _⟩ := hr.2 (by omega)
      exact ⟨ad, h⟩
    obtain ⟨a, b, c', d, rfl⟩ : ∃ a b c d, l = [a, b, c, d] := by
      match l, hlen with
      | [a, b, c, d], _ => exact ⟨a, b, c, d, rfl⟩
    have hok := hyes _ _ _ _ rfl
    clear hyes hno hlen
    go_enter Tryz.func183, Tryz.ntmps183
    go_wp2_with fail
    refine (hsig _).mono ?_
    rintro e w1 ⟨rfl, hb1⟩
    have hb1' : Below w.heap.size w w1 := ((Below.refl _ _).alloc (Nat.le_refl _) _).trans (hb1.mono (by simp))
    obtain ⟨ad', e', hbd, hcell⟩ := (hr.below (hb1'.mono hB)).2 (by omega)
    injection e' with e'
    subst e'
    go_wp2_with fail
    refine (paramNumber_any ad 4 c a b c' d w1 (by omega) (hcell 0 _ rfl) (hcell 1 _ rfl) (hcell 2 _ rfl) (hcell 3 _ rfl)).mono ?_
    rintro e w2 ⟨rfl, k, rfl⟩
    go_wp2_with fail
    have hq : (((ofWord a b c' d).toNat : Int) == (sg.toNat : Int)) = ok := by
      rw [hok, Bool.eq_iff_iff]
      simp only [beq_iff_eq, decide_eq_true_eq]
      constructor
      · intro h
        apply BitVec.eq_of_toNat_eq
        omega
      · intro h
        rw [h]
    refine bodyPost_ret (v := .tuple #[.bool ok, .int .i64 0]) (by simp [results, Tryz.results183, go_sem, hq]) rfl ⟨rfl, belowN hb1' k⟩
  · have hok := hno h4
    subst hok
    have g4 : ((n : Int) == 4) = false := by simp; omega
    clear hno hyes
    go_enter Tryz.func183, Tryz.ntmps183
    go_wp2_with fail
    refine (hsig _).mono ?_
    rintro e w1 ⟨rfl, hb1⟩
    go_wp2_with fail
    refine bodyPost_ret (v := .tuple #[.bool false, .int .i64 0]) (by simp [results, Tryz.results183, go_sem]) rfl ⟨rfl, ((Below.refl _ _).alloc (Nat.le_refl _) _).trans (hb1.mono (by simp))⟩
end Go.Proofs.YtlldgfejcjnpkaaGreat
/- How rows hand bytes, sets and numbers on. -/
namespace Go.Proofs.YtlldgfejcjnpkaaGreat
open Go.RowKit

theorem wf_u8 {z : Int} (h : (Lit.int .u8 z).wf = true) : 0 ≤ z ∧ z < 256 := by
  have := (Lit.wf_int_iff .u8 z).1 h
  simp [IntKind.min, IntKind.max, IntKind.bits, IntKind.signed] at this
  omega
theorem wf_u32 {z : Int} (h : (Lit.int .u32 z).wf = true) : 0 ≤ z ∧ z < 4294967296 := by
  have := (Lit.wf_int_iff .u32 z).1 h
  simp [IntKind.min, IntKind.max, IntKind.bits, IntKind.signed] at this
  omega
theorem wf_i64 {z : Int} (h : (Lit.int .i64 z).wf = true) : -9223372036854775808 ≤ z ∧ z ≤ 9223372036854775807 := by
  have := (Lit.wf_int_iff .i64 z).1 h
  simp [IntKind.min, IntKind.max, IntKind.bits, IntKind.signed] at this
  omega
def bytesOf (zs : List Int) : List UInt8 := zs.map fun z => UInt8.ofNat z.toNat
theorem bytesOf_cells (zs : List Int) (h : ∀ z ∈ zs, (Lit.int .u8 z).wf = true) : zs.map (Value.int .u8) = u8c (bytesOf zs) := by
  induction zs with
  | nil => rfl
  | cons z zs ih =>
    have h1 := wf_u8 (h z (by simp))
    have h2 := ih (fun y hy => h y (by simp [hy]))
    simp only [bytesOf, u8c, List.map_cons] at h2 ⊢
    rw [h2]
    congr 2
    simp only [UInt8.toNat_ofNat']
    omega
theorem reads_bytes {W : World} {B n : Nat} {A : Option Addr} {zs : List Int} (hr : Reads W B 1 A n (zs.map (Value.int .u8))) (h : ∀ z ∈ zs, (Lit.int .u8 z).wf = true) : Reads W B 1 A n (u8c (bytesOf zs)) := by
  rw [← bytesOf_cells zs h]
  exact hr
theorem par_ok {a b c d e : Int} (h0 : (Lit.int .u32 a).wf = true) (h4 : (Lit.int .u32 e).wf = true) : (ParM.mk a b c d e).Ok := ⟨wf_u32 h0, wf_u32 h4⟩
end Go.Proofs.YtlldgfejcjnpkaaGreat
/- unit.Decode by its contract. -/
namespace Go.Proofs.YtlldgfejcjnpkaaGreat
open Go.RowKit
set_option maxHeartbeats 10000000
set_option maxRecDepth 100000

theorem Blk.store6 {w : World} {g : Nat} {t : TypeId} {a0 a1 a2 a3 a4 a5 : Value} (h : Blk w g t #[a0, a1, a2, a3, a4, a5]) (b0 b1 b2 b3 b4 b5 : Value) :
    Blk ((((((w.setCell ⟨g, 0, none⟩ b0).setCell ⟨g, 1, none⟩ b1).setCell ⟨g, 2, none⟩ b2).setCell ⟨g, 3, none⟩ b3).setCell ⟨g, 4, none⟩ b4).setCell ⟨g, 5, none⟩ b5) g t #[b0, b1, b2, b3, b4, b5] := by
  have := (((((h.set_ 0 b0).set_ 1 b1).set_ 2 b2).set_ 3 b3).set_ 4 b4).set_ 5 b5
  simpa using this
theorem below_store6 {B : Nat} {w0 w : World} {g : Nat} (h : Below B w0 w) (hg : B ≤ g) (b0 b1 b2 b3 b4 b5 : Value) :
    Below B w0 ((((((w.setCell ⟨g, 0, none⟩ b0).setCell ⟨g, 1, none⟩ b1).setCell ⟨g, 2, none⟩ b2).setCell ⟨g, 3, none⟩ b3).setCell ⟨g, 4, none⟩ b4).setCell ⟨g, 5, none⟩ b5) :=
  (((((h.setCell hg b0).setCell hg b1).setCell hg b2).setCell hg b3).setCell hg b4).setCell hg b5
/-- The same memory (draws are nobody's). -/
structure Same (w w' : World) : Prop where
  heap : w'.heap = w.heap
  os : w'.os = w.os
  tape : w'.tape = w.tape
  output : w'.output = w.output
theorem Same.refl (w : World) : Same w w := ⟨rfl, rfl, rfl, rfl⟩
theorem Same.of {w w1 w' : World} {k : Nat} (h : w' = w1.drewN k) (e : Same w w1) : Same w w' := by
  subst h
  exact ⟨e.heap, e.os, e.tape, e.output⟩
theorem Blk.same {w w' : World} {g : Nat} {t : TypeId} {cs : Array Value} (h : Blk w g t cs) (e : Same w w') : Blk w' g t cs := by
  unfold Blk at h ⊢
  rw [e.heap]
  exact h
theorem Reads.same {w w' : World} {B size n : Nat} {A : Option Addr} {xs : List Value} (h : Reads w B size A n xs) (e : Same w w') : Reads w' B size A n xs :=
  h.keep fun p _ => by unfold World.cell?; rw [e.heap]
theorem below_same {B : Nat} {w0 w w' : World} (h : Below B w0 w) (e : Same w w') : Below B w0 w' :=
  ⟨e.os.trans h.os, e.tape.trans h.tape, e.output.trans h.output, by rw [e.heap]; exact h.size, fun k hk => by rw [e.heap]; exact h.block k hk⟩
theorem size_same {B : Nat} {w w' : World} (h : B ≤ w.heap.size) (e : Same w w') : B ≤ w'.heap.size := by rw [e.heap]; exact h
theorem size_drew {B : Nat} {w : World} (h : B ≤ w.heap.size) : B ≤ w.drew.heap.size := h
theorem size_alloc {B : Nat} {w : World} (h : B ≤ w.heap.size) (o : Obj) : B ≤ (w.alloc o).heap.size := by simp; omega
theorem Reads.sub {w : World} {B : Nat} {ad : Addr} {n : Nat} {xs : List Value} (h : Reads w B 1 (some ad) n xs) (i m : Nat) (him : i + m ≤ n) : Reads w B 1 (some (ad.add i)) m ((xs.drop i).take m) := by
  refine ⟨by rw [List.length_take, List.length_drop, h.1]; omega, fun hm => ?_⟩
  obtain ⟨ad', e, hb, hc⟩ := h.2 (by omega)
  injection e with e
  subst e
  refine ⟨_, rfl, by rw [block_of_add]; exact hb, fun j u hu => ?_⟩
  rw [add_of_add]
  rw [List.getElem?_take] at hu
  split at hu
  · rw [List.getElem?_drop] at hu
    exact hc _ u hu
  · cases hu
theorem Reads.byte {w : World} {B : Nat} {ad : Addr} {n : Nat} {l : List UInt8} (h : Reads w B 1 (some ad) n (u8c l)) (i : Nat) (hi : i < n) : w.cell? (ad.add i) = some (.int .u8 ((l.getD i 0).toNat : Int)) := by
  obtain ⟨ad', e, hb, hc⟩ := h.2 (by omega)
  injection e with e
  subst e
  have hl : i < l.length := by have := h.1; simp [u8c] at this; omega
  apply hc
  rw [u8c_get]
  simp [List.getD, hl]
theorem Reads.two {w : World} {B : Nat} {ad : Addr} {n : Nat} {l : List UInt8} {b0 b13 : UInt8} (h : Reads w B 1 (some ad) n (u8c l)) (hn : 13 < n) (e0 : Hid (b0 = l.getD 0 0)) (e13 : Hid (b13 = l.getD 13 0)) :
    w.cell? ad = some (.int .u8 (b0.toNat : Int)) ∧ w.cell? ⟨ad.block, ad.off + 13, none⟩ = some (.int .u8 (b13.toNat : Int)) := by
  rw [e0.out, e13.out]
  exact ⟨h.byte 0 (by omega), h.byte 13 hn⟩
theorem Blk.far6 {w : World} {g g' : Nat} {t : TypeId} {cs : Array Value} (h : Blk w g t cs) (hne : g < g') (b0 b1 b2 b3 b4 b5 : Value) :
    Blk ((((((w.setCell ⟨g', 0, none⟩ b0).setCell ⟨g', 1, none⟩ b1).setCell ⟨g', 2, none⟩ b2).setCell ⟨g', 3, none⟩ b3).setCell ⟨g', 4, none⟩ b4).setCell ⟨g', 5, none⟩ b5) g t cs :=
  have e : ∀ j, g ≠ (⟨g', j, none⟩ : Addr).block := fun _ => Nat.ne_of_lt hne
  (((((h.far (e 0) b0).far (e 1) b1).far (e 2) b2).far (e 3) b3).far (e 4) b4).far (e 5) b5
theorem Reads.store6 {w : World} {B size n g : Nat} {A : Option Addr} {xs : List Value} (h : Reads w B size A n xs) (hg : B ≤ g) (b0 b1 b2 b3 b4 b5 : Value) :
    Reads ((((((w.setCell ⟨g, 0, none⟩ b0).setCell ⟨g, 1, none⟩ b1).setCell ⟨g, 2, none⟩ b2).setCell ⟨g, 3, none⟩ b3).setCell ⟨g, 4, none⟩ b4).setCell ⟨g, 5, none⟩ b5) B size A n xs :=
  (((((h.setCell hg b0).setCell hg b1).setCell hg b2).setCell hg b3).setCell hg b4).setCell hg b5
theorem unitGet_at (i : Nat) (ad : Addr) (n m c B : Nat) (l : List UInt8) (w : World) (hi : 0 < i) (hm : 4 ≤ m) (him : i + 4 ≤ n) (h : Reads w B 1 (some ad) n (u8c l)) :
    Calls Tryz.prog 133 #[.slice (some ⟨ad.block, ad.off + i, none⟩) m c] w fun e w' => e = .returned (.int .u32 (numAt l i)) ∧ ∃ k, w' = w.drewN k := by
  have e : ad.add i = ⟨ad.block, ad.off + i, none⟩ := by unfold Addr.add; rw [if_neg (by omega)]
  have g : ∀ j, (⟨ad.block, ad.off + i, none⟩ : Addr).add j = ad.add (i + j) := fun j => by rw [← e, add_of_add]
  refine unitGet_any _ m c (l.getD i 0) (l.getD (i + 1) 0) (l.getD (i + 2) 0) (l.getD (i + 3) 0) w hm ?_ ?_ ?_ ?_ <;> rw [g]
  · exact h.byte (i + 0) (by omega)
  · exact h.byte (i + 1) (by omega)
  · exact h.byte (i + 2) (by omega)
  · exact h.byte (i + 3) (by omega)
theorem u8c_sub (l : List UInt8) (i m : Nat) : ((u8c l).drop i).take m = u8c ((l.drop i).take m) := by simp [u8c, List.map_drop, List.map_take]
theorem numAt_nonneg (l : List UInt8) (i : Nat) : 0 ≤ numAt l i := by unfold numAt; omega
theorem lawful_head (k c s n f : Int) (d d' : List UInt8) : ((UnitM.mk k c s n f d).lawful = 43 ↔ (UnitM.mk k c s n f d').lawful = 43) ∧ ((UnitM.mk k c s n f d).lawful = 44 ↔ (UnitM.mk k c s n f d').lawful = 44) := by
  have key : ∀ d : List UInt8, ((UnitM.mk k c s n f d).lawful = 43 ↔ (!isHost k && !isDev k) = true) ∧ ((UnitM.mk k c s n f d).lawful = 44 ↔ (!isHost k && !isDev k) = false ∧ (c == 0) = true) := by
    intro d
    unfold UnitM.lawful
    simp only
    cases h1 : (!isHost k && !isDev k) with
    | true => simp
    | false =>
      cases h2 : (c == 0) with
      | true => simp
      | false =>
        simp only [Bool.false_eq_true, if_false]
        split
        · simp
        split
        · simp
        split
        · simp
        split <;> simp
  rw [(key d).1, (key d').1, (key d).2, (key d').2]
  exact ⟨Iff.rfl, Iff.rfl⟩
theorem unitDecode_any (A : Option Addr) (n c B : Nat) (l : List UInt8) (w : World) (hr : Reads w B 1 A n (u8c l)) (hB : B ≤ w.heap.size) (hc : n ≤ c) (hn : n ≤ 140737488351232) :
    Calls Tryz.prog 80 #[.slice A n c] w fun e w' => ∃ v, e = .returned (.tuple #[unitVal (decodeM l).1 v, .int .i64 (decodeM l).2]) ∧ w'.ownsRow w.heap.size 5 1 v (decodeM l).1.data.length (u8c (decodeM l).1.data) ∧ Below w.heap.size w w' := by
  have hl : l.length = n := by have := hr.1; simpa [u8c] using this
  have hbz : Below w.heap.size w (w.alloc (.cells #[.int .i64 0, .int .u32 0, .int .u32 0, .int .u32 0, .int .i64 0, .slice none 0 0] 64)) := (Below.refl _ _).alloc (Nat.le_refl _) _
  by_cases h19 : n < 19
  · have e : decodeM l = (.zero, 40) := by unfold decodeM; rw [if_pos (by omega)]
    rw [e]
    clear e
    go_enter Tryz.func80, Tryz.ntmps80
    go_wp2_with fail
    refine bodyPost_ret (v := .tuple #[unitVal .zero (.slice none 0 0), .int .i64 40]) (by simp [results, Tryz.results80, go_sem, unitVal, UnitM.zero]) rfl ⟨_, rfl, World.ownsRow_nil _ _ _ _, hbz⟩
  by_cases h27 : 27 < n
  · have e : decodeM l = (.zero, 41) := by unfold decodeM; rw [if_neg (by omega), if_pos (by omega)]
    rw [e]
    clear e
    go_enter Tryz.func80, Tryz.ntmps80
    go_wp2_with fail
    refine bodyPost_ret (v := .tuple #[unitVal .zero (.slice none 0 0), .int .i64 41]) (by simp [results, Tryz.results80, go_sem, unitVal, UnitM.zero]) rfl ⟨_, rfl, World.ownsRow_nil _ _ _ _, hbz⟩
  have hrz := hr.alloc hB (.cells #[.int .i64 0, .int .u32 0, .int .u32 0, .int .u32 0, .int .i64 0, .slice none 0 0] 64)
  cases hcrc : (crcOf 0#32 l == 0#32) with
  | false =>
    have hcrc' : crcOf 0#32 l ≠ 0#32 := by simpa using hcrc
    have e : decodeM l = (.zero, 42) := by unfold decodeM; rw [if_neg (by omega), if_neg (by omega), if_pos hcrc']
    rw [e]
    clear e hcrc'
    go_enter Tryz.func80, Tryz.ntmps80
    go_wp2_with fail
    refine (crcValid_any A n c l B _ hrz (by omega) (by omega)).mono ?_
    rintro e w1 ⟨rfl, k, rfl⟩
    rw [hcrc]
    have hz2 := (Blk.new w 64 #[.int .i64 0, .int .u32 0, .int .u32 0, .int .u32 0, .int .i64 0, .slice none 0 0]).drewN k
    have hb2 := belowN hbz k
    obtain ⟨g, Hg⟩ : ∃ g, Hid (g = w.heap.size) := ⟨_, Lib.hid rfl⟩
    rw [← Hg.out] at hz2 ⊢
    generalize (w.alloc (.cells #[.int .i64 0, .int .u32 0, .int .u32 0, .int .u32 0, .int .i64 0, .slice none 0 0] 64)).drewN k = W2 at *
    have hcz := hz2.cell
    have hfz := hz2.frozen
    clear hrz hbz
    go_wp2_with fail
    have hB3 := hz2.store6 (.int .i64 0) (.int .u32 0) (.int .u32 0) (.int .u32 0) (.int .i64 0) (.slice none 0 0)
    have hb3 := below_store6 hb2 (g := g) (by have := Hg.out; omega) (.int .i64 0) (.int .u32 0) (.int .u32 0) (.int .u32 0) (.int .i64 0) (.slice none 0 0)
    clear hcz hfz
    generalize (((((W2.setCell ⟨g, 0, none⟩ _).setCell ⟨g, 1, none⟩ _).setCell ⟨g, 2, none⟩ _).setCell ⟨g, 3, none⟩ _).setCell ⟨g, 4, none⟩ _).setCell ⟨g, 5, none⟩ _ = W3 at *
    have hcz := hB3.cell
    refine bodyPost_ret (v := .tuple #[unitVal .zero (.slice none 0 0), .int .i64 42]) (by simp [results, Tryz.results80, go_sem, unitVal, UnitM.zero, hcz]) rfl ⟨_, rfl, World.ownsRow_nil _ _ _ _, hb3⟩
  | true =>
    obtain ⟨ad, rfl⟩ : ∃ ad, A = some ad := by
      obtain ⟨ad, h, _⟩ := hr.2 (by omega)
      exact ⟨ad, h⟩
    have hadB : ad.block < B := by
      obtain ⟨ad', e, h, _⟩ := hr.2 (by omega)
      injection e with e
      rw [e]
      exact h
    obtain ⟨n', rfl⟩ : ∃ n', n = n' + 19 := ⟨n - 19, by omega⟩
    have hn8 : n' ≤ 8 := by omega
    obtain ⟨dm, Hdm⟩ : ∃ d, Hid (d = decodeM l) := ⟨_, Lib.hid rfl⟩
    obtain ⟨um, Hum⟩ : ∃ u, Hid (u = unitOf l) := ⟨_, Lib.hid rfl⟩
    obtain ⟨b0, Hb0⟩ : ∃ b, Hid (b = l.getD 0 0) := ⟨_, Lib.hid rfl⟩
    obtain ⟨b13, Hb13⟩ : ∃ b, Hid (b = l.getD 13 0) := ⟨_, Lib.hid rfl⟩
    obtain ⟨b14, Hb14⟩ : ∃ b, Hid (b = l.getD 14 0) := ⟨_, Lib.hid rfl⟩
    rw [← Hdm.out]
    have Hcrc := Lib.hid hcrc
    go_enter Tryz.func80, Tryz.ntmps80
    go_wp2_with fail
    refine (crcValid_any (some ad) _ c l B _ hrz (by omega) (by omega)).mono ?_
    rintro e w1 ⟨rfl, k, rfl⟩
    rw [hcrc]
    have hz2 := (Blk.new w 64 #[.int .i64 0, .int .u32 0, .int .u32 0, .int .u32 0, .int .i64 0, .slice none 0 0]).drewN k
    have hb2 := belowN hbz k
    have hr2 := hrz.drewN k
    have hs2 := hz2.lt
    obtain ⟨g, Hg⟩ : ∃ g, Hid (g = w.heap.size) := ⟨_, Lib.hid rfl⟩
    rw [← Hg.out] at hz2 hs2 ⊢
    generalize (w.alloc (.cells #[.int .i64 0, .int .u32 0, .int .u32 0, .int .u32 0, .int .i64 0, .slice none 0 0] 64)).drewN k = W2 at *
    clear hrz hbz hr hcrc
    go_upto_region 8 with fail
    have hsW := hb2.size
    go_cut [5] from 27 to 76 (fun v5 wc => ∃ g5, v5 = .pointer (some ⟨g5, 0, none⟩) ∧ g < g5 ∧ Blk wc g5 64 #[.int .i64 (b0.toNat : Int), .int .u32 (numAt l 1), .int .u32 (numAt l 5), .int .u32 (numAt l 9), .int .i64 (b13.toNat : Int), .slice none 0 0] ∧
      Blk wc g 64 #[.int .i64 0, .int .u32 0, .int .u32 0, .int .u32 0, .int .i64 0, .slice none 0 0] ∧ Reads wc B 1 (some ad) (n' + 19) (u8c l) ∧ Below w.heap.size w wc)
    case first =>
      have i0 : (0 : Int) < (n' : Int) + 19 := by omega
      have i13 : (13 : Int) < (n' : Int) + 19 := by omega
      have i1 : (1 : Int) ≤ (n' : Int) + 19 := by omega
      have i5 : (5 : Int) ≤ (n' : Int) + 19 := by omega
      have i9 : (9 : Int) ≤ (n' : Int) + 19 := by omega
      have c1 : ¬ c = 1 := by omega
      have c5 : ¬ c = 5 := by omega
      have c9 : ¬ c = 9 := by omega
      have ic : ((n' : Int) + 19) ≤ (c : Int) := by omega
      have hwr0 : IntKind.i64.wrap (b0.toNat : Int) = (b0.toNat : Int) := by have := b0.toNat_lt; exact IntWalk.i64_in _ (by omega)
      have hwr13 : IntKind.i64.wrap (b13.toNat : Int) = (b13.toNat : Int) := by have := b13.toNat_lt; exact IntWalk.i64_in _ (by omega)
      have hBW0 : B ≤ W2.heap.size := by omega
      have hBW := size_drew hBW0
      have hr0 := hr2
      have hz0 := hz2
      have hb0 := hb2
      replace hr2 := hr2.drew
      replace hz2 := hz2.drew
      replace hb2 := hb2.drew
      have p13 : 13 < n' + 19 := by omega
      go_wp2_with fail
      go_region_held3 (fun w' => w'.cell? ad = some (.int .u8 (b0.toNat : Int)) ∧ w'.cell? ⟨ad.block, ad.off + 13, none⟩ = some (.int .u8 (b13.toNat : Int))) (with_reducible (first | exact hr2.two p13 Hb0 Hb13 | exact (hr2.alloc hBW _).two p13 Hb0 Hb13 | exact (hr0.alloc hBW0 _).drew.two p13 Hb0 Hb13 | exact (hr2.store6 hBN _ _ _ _ _ _).two p13 Hb0 Hb13)) (first
        | (go_at_call 133; refine (unitGet_at _ ad (n' + 19) _ _ B l _ ?_ ?_ ?_ ?_).mono ?_; omega; omega; omega; with_reducible exact hr2; rintro e W ⟨rfl, k1, hW⟩; replace hz2 := hz2.same (Same.of hW (Same.refl _)); replace hb2 := below_same hb2 (Same.of hW (Same.refl _)); replace hBW := size_same hBW (Same.of hW (Same.refl _)); (try (replace hN := hN.same (Same.of hW (Same.refl _)); replace hNc := hN.cell; replace hNf := hN.frozen)); replace hr2 := hr2.same (Same.of hW (Same.refl _)); clear hW)
        | (go_at_call 133; refine (unitGet_at _ ad (n' + 19) _ _ B l _ ?_ ?_ ?_ ?_).mono ?_; omega; omega; omega; with_reducible exact hr2.alloc hBW _; rintro e W ⟨rfl, k1, hW⟩; have hBN := hBW; have hgN := hz2.lt; have hgW := hb2.size; replace hz2 := (hz2.alloc _).same (Same.of hW (Same.refl _)); replace hb2 := below_same (hb2.alloc hb2.size _) (Same.of hW (Same.refl _)); have hN := (Blk.new _ 64 #[.int .i64 0, .int .u32 0, .int .u32 0, .int .u32 0, .int .i64 0, .slice none 0 0]).same (Same.of hW (Same.refl _)); have hNc := hN.cell; have hNf := hN.frozen; replace hr2 := (hr2.alloc hBW _).same (Same.of hW (Same.refl _)); replace hBW := size_same (size_alloc hBW _) (Same.of hW (Same.refl _)); clear hW)
        | (go_at_call 133; refine (unitGet_at _ ad (n' + 19) _ _ B l _ ?_ ?_ ?_ ?_).mono ?_; omega; omega; omega; with_reducible exact (hr0.alloc hBW0 _).drew; rintro e W ⟨rfl, k1, hW⟩; have hBN := hBW0; have hgN := hz0.lt; have hgW := hb0.size; replace hz2 := ((hz0.alloc _).drew).same (Same.of hW (Same.refl _)); replace hb2 := below_same ((hb0.alloc hb0.size _).drew) (Same.of hW (Same.refl _)); have hN := ((Blk.new _ 64 #[.int .i64 0, .int .u32 0, .int .u32 0, .int .u32 0, .int .i64 0, .slice none 0 0]).drew).same (Same.of hW (Same.refl _)); have hNc := hN.cell; have hNf := hN.frozen; replace hr2 := ((hr0.alloc hBW0 _).drew).same (Same.of hW (Same.refl _)); replace hBW := size_same (size_drew (size_alloc hBW0 _)) (Same.of hW (Same.refl _)); clear hW))
      all_goals (go_wp2_with fail; go_meet)
      all_goals first
        | exact ⟨_, rfl, hz2.lt, Blk.new _ _ _, hz2.alloc _, hr2.alloc hBW _, hb2.alloc hb2.size _⟩
        | exact ⟨_, rfl, hgN, hN.store6 _ _ _ _ _ _, hz2.far6 hgN _ _ _ _ _ _, hr2.store6 hBN _ _ _ _ _ _, below_store6 hb2 hgW _ _ _ _ _ _⟩
    case rest =>
      obtain ⟨g5, rfl, hg5, hB5, hz5, hr5, hb5⟩ := hcut
      obtain ⟨W5, rfl⟩ : ∃ W : World, W = wc := ⟨_, rfl⟩
      clear hb2 hr2 hs2 hz2 hsW
      obtain ⟨data, Hdata⟩ : ∃ d, Hid (d = (l.drop 15).take n') := ⟨_, Lib.hid rfl⟩
      have hdl : data.length = n' := by rw [Hdata.out, List.length_take, List.length_drop]; omega
      have hrd : Reads W5 B 1 (some ⟨ad.block, ad.off + 15, none⟩) n' (u8c data) := by
        have := hr5.sub 15 n' (by omega)
        rw [u8c_sub, ← Hdata.out] at this
        exact this
      have h14c : W5.cell? ⟨ad.block, ad.off + 14, none⟩ = some (.int .u8 (b14.toNat : Int)) := by
        have := hr5.byte 14 (by omega)
        rw [← Hb14.out] at this
        exact this
      have Hunit : Hid (unitOf l = ⟨b0.toNat, numAt l 1, numAt l 5, numAt l 9, b13.toNat, data⟩) := Lib.hid (by
        unfold unitOf
        rw [← Hb0.out, ← Hb13.out, Hdata.out, hl, show n' + 19 - 19 = n' by omega])
      have Hdm2 : Hid (dm = (if (if (unitOf l).lawful ≠ 43 ∧ (unitOf l).lawful ≠ 44 ∧ (b14.toNat) ≠ (unitOf l).data.length then 45 else (unitOf l).lawful) ≠ 0 then (.zero, (if (unitOf l).lawful ≠ 43 ∧ (unitOf l).lawful ≠ 44 ∧ (b14.toNat) ≠ (unitOf l).data.length then 45 else (unitOf l).lawful)) else (unitOf l, 0))) := Lib.hid (by
        have hc0 : ¬ crcOf 0#32 l ≠ 0#32 := by have := Hcrc.out; simpa using this
        rw [Hdm.out, Hb14.out]
        unfold decodeM
        rw [if_neg (by omega), if_neg (by omega), if_neg hc0])
      clear Hdm Hcrc Hum hr5
      have n1 := numAt_nonneg l 5
      have n2 := numAt_nonneg l 9
      generalize numAt l 1 = q1 at *
      generalize numAt l 5 = q5 at *
      generalize numAt l 9 = q9 at *
      have hw14 : IntKind.i64.wrap (b14.toNat : Int) = (b14.toNat : Int) := by have := b14.toNat_lt; exact IntWalk.i64_in _ (by omega)
      have hcz := hz5.cell
      have hcf := hz5.frozen
      have hc5 := hB5.cell
      have hf5 := hB5.frozen
      have hsz5 := hb5.size
      by_cases h14 : b14.toNat = n'
      · have hq14 : ((b14.toNat : Int) == (n' : Int)) = true := by simp; omega
        have hq14' : ((b14.toNat : Int) != (n' : Int)) = false := by simp; omega
        have Hdm3 : Hid (dm = (if (UnitM.mk b0.toNat q1 q5 q9 b13.toNat data).lawful ≠ 0 then (.zero, (UnitM.mk b0.toNat q1 q5 q9 b13.toNat data).lawful) else (⟨b0.toNat, q1, q5, q9, b13.toNat, data⟩, 0))) := Lib.hid (by
          have e14 : ¬ ((UnitM.mk b0.toNat q1 q5 q9 b13.toNat data).lawful ≠ 43 ∧ (UnitM.mk b0.toNat q1 q5 q9 b13.toNat data).lawful ≠ 44 ∧ b14.toNat ≠ data.length) := fun h => h.2.2 (by rw [hdl]; exact h14)
          rw [Hdm2.out, Hunit.out, if_neg e14])
        have hlaw := fun A c w => unitLawful_any ⟨b0.toNat, q1, q5, q9, b13.toNat, data⟩ A c w n1 n2
        have Hlaw0 := Lib.hid (@UnitM.lawful_len ⟨b0.toNat, q1, q5, q9, b13.toNat, data⟩)
        unfold unitVal at hlaw
        simp only [hdl] at hlaw
        generalize (UnitM.mk b0.toNat q1 q5 q9 b13.toNat data).lawful = law at *
        clear Hdm2 Hunit Hlaw0
        go_wp2_with fail
        refine (cloneByte_any (some ⟨ad.block, ad.off + 15, none⟩) n' _ data B W5 (fun h => by cases h) hrd (by omega) (by omega)).mono ?_
        rintro e W6 ⟨v6, rfl, hown6, _, _, hb6⟩
        obtain ⟨A6, c6, rfl⟩ := own_slice hown6
        have hB6 := hB5.below hb6 hB5.lt
        have hz6 := hz5.below hb6 hz5.lt
        have hc6 := hB6.cell
        have hf6 := hB6.frozen
        have hb6' := hb5.trans (hb6.mono hsz5)
        have hblk6 : ∀ x, (Value.slice A6 n' c6).ownBlock = some x → W5.heap.size ≤ x := fun x hx => (hown6.lt x hx).1
        have hl5 := hB5.lt
        clear hcz hcf hc5 hf5
        go_wp2_with fail
        refine (hlaw _ _ _).mono ?_
        rintro e W7 ⟨rfl, hb7⟩
        have hB7 : Blk W7 g5 64 #[.int .i64 (b0.toNat : Int), .int .u32 q1, .int .u32 q5, .int .u32 q9, .int .i64 (b13.toNat : Int), .slice A6 n' c6] := by
          have := (hB6.set_ 5 (.slice A6 n' c6)).below hb7 (hB6.set_ 5 _).lt
          simpa using this
        have hz7 := (hz6.far (p := ⟨g5, 5, none⟩) (Nat.ne_of_lt hg5) (.slice A6 n' c6)).below hb7 (hz6.far (p := ⟨g5, 5, none⟩) (Nat.ne_of_lt hg5) _).lt
        have hb7' : Below w.heap.size w W7 := (hb6'.setCell (p := ⟨g5, 5, none⟩) (by have := Hg.out; simp; omega) (.slice A6 n' c6)).trans (hb7.mono (by simp [World.setCell]; exact hb6'.size))
        have hown7 : W7.ownsRow W5.heap.size 5 1 (.slice A6 n' c6) n' (u8c data) := by
          have hs6 : (W6.setCell ⟨g5, 5, none⟩ (.slice A6 n' c6)).heap.size = W6.heap.size := by simp [World.setCell]
          refine own_below (own_far hown6 (g := g5) (fun h => ?_) 5 _) hb7
          have := hblk6 _ h
          omega
        have h14d : W7.cell? ⟨ad.block, ad.off + 14, none⟩ = some (.int .u8 (b14.toNat : Int)) :=
          ((hb7'.cell (p := ⟨ad.block, ad.off + 14, none⟩) (Nat.lt_of_lt_of_le hadB hB)).trans (hb5.cell (p := ⟨ad.block, ad.off + 14, none⟩) (Nat.lt_of_lt_of_le hadB hB)).symm).trans h14c
        have hc7 := hB7.cell
        have hcz := hz7.cell
        have hcf := hz7.frozen
        clear hc6 hf6 hb7 hB6 hz6 hb6 hb6' hown6 hlaw h14c
        by_cases hl0 : law = 0
        · subst hl0
          go_wp2_with fail
          have hwg : w.heap.size ≤ g := by have := Hg.out; omega
          have hgW5 : g ≠ W5.heap.size := by have := hB5.lt; omega
          have hB8 := hz7.store6 (.int .i64 (b0.toNat : Int)) (.int .u32 q1) (.int .u32 q5) (.int .u32 q9) (.int .i64 (b13.toNat : Int)) (.slice A6 n' c6)
          have hb8 := below_store6 hb7' hwg (.int .i64 (b0.toNat : Int)) (.int .u32 q1) (.int .u32 q5) (.int .u32 q9) (.int .i64 (b13.toNat : Int)) (.slice A6 n' c6)
          have hAg : ∀ x, (Value.slice A6 n' c6).ownBlock = some x → x ≠ g := fun x hx e => by have := hblk6 x hx; omega
          have hfar : (Value.slice A6 n' c6).ownBlock ≠ some g := fun h => hAg g h rfl
          have hown8 := own_far (own_far (own_far (own_far (own_far (own_far hown7 hfar 0 (.int .i64 (b0.toNat : Int))) hfar 1 (.int .u32 q1)) hfar 2 (.int .u32 q5)) hfar 3 (.int .u32 q9)) hfar 4 (.int .i64 (b13.toNat : Int))) hfar 5 (.slice A6 n' c6)
          clear hcz hcf hc7
          generalize (((((W7.setCell ⟨g, 0, none⟩ _).setCell ⟨g, 1, none⟩ _).setCell ⟨g, 2, none⟩ _).setCell ⟨g, 3, none⟩ _).setCell ⟨g, 4, none⟩ _).setCell ⟨g, 5, none⟩ _ = W8 at *
          have hc8 := hB8.cell
          have hdm : dm = (⟨b0.toNat, q1, q5, q9, b13.toNat, data⟩, 0) := by rw [Hdm3.out, if_neg (by simp)]
          subst hdm
          refine bodyPost_ret (v := .tuple #[unitVal ⟨b0.toNat, q1, q5, q9, b13.toNat, data⟩ (.slice A6 n' c6), .int .i64 0]) (by simp [results, Tryz.results80, go_sem, unitVal, hc8]) rfl ⟨_, rfl, ?_, hb8⟩
          simp only [hdl]
          exact own_base hown8 hsz5
        · have hl0' : (law != 0) = true := by simpa using hl0
          go_wp2_with fail
          have hwg : w.heap.size ≤ g := by have := Hg.out; omega
          have hB8 := hz7.store6 (.int .i64 0) (.int .u32 0) (.int .u32 0) (.int .u32 0) (.int .i64 0) (.slice none 0 0)
          have hb8 := below_store6 hb7' hwg (.int .i64 0) (.int .u32 0) (.int .u32 0) (.int .u32 0) (.int .i64 0) (.slice none 0 0)
          clear hcz hcf hc7
          generalize (((((W7.setCell ⟨g, 0, none⟩ _).setCell ⟨g, 1, none⟩ _).setCell ⟨g, 2, none⟩ _).setCell ⟨g, 3, none⟩ _).setCell ⟨g, 4, none⟩ _).setCell ⟨g, 5, none⟩ _ = W8 at *
          have hc8 := hB8.cell
          have hdm : dm = (.zero, law) := by rw [Hdm3.out, if_pos hl0]
          subst hdm
          refine bodyPost_ret (v := .tuple #[unitVal .zero (.slice none 0 0), .int .i64 law]) (by simp [results, Tryz.results80, go_sem, unitVal, UnitM.zero, hc8]) rfl ⟨_, rfl, World.ownsRow_nil _ _ _ _, hb8⟩
      · have hq14 : ((b14.toNat : Int) == (n' : Int)) = false := by simp; omega
        have hq14' : ((b14.toNat : Int) != (n' : Int)) = true := by simp; omega
        have hlaw := fun A c w => unitLawful_any ⟨b0.toNat, q1, q5, q9, b13.toNat, []⟩ A c w n1 n2
        have hhead := lawful_head (b0.toNat : Int) q1 q5 q9 (b13.toNat : Int) data []
        have Hdm3 : Hid (dm = (.zero, if (UnitM.mk b0.toNat q1 q5 q9 b13.toNat []).lawful ≠ 43 ∧ (UnitM.mk b0.toNat q1 q5 q9 b13.toNat []).lawful ≠ 44 then 45 else (UnitM.mk b0.toNat q1 q5 q9 b13.toNat []).lawful)) := Lib.hid (by
          rw [Hdm2.out, Hunit.out]
          simp only [hdl, ne_eq, h14, not_false_eq_true, and_true]
          generalize (UnitM.mk b0.toNat q1 q5 q9 b13.toNat data).lawful = x at *
          generalize (UnitM.mk b0.toNat q1 q5 q9 b13.toNat []).lawful = y at *
          by_cases x43 : x = 43
          · have y43 := hhead.1.1 x43
            subst x43 y43
            simp
          · by_cases x44 : x = 44
            · have y44 := hhead.2.1 x44
              subst x44 y44
              simp
            · have y43 : ¬ y = 43 := fun h => x43 (hhead.1.2 h)
              have y44 : ¬ y = 44 := fun h => x44 (hhead.2.2 h)
              simp [x43, x44, y43, y44])
        unfold unitVal at hlaw
        simp only [List.length_nil] at hlaw
        generalize (UnitM.mk b0.toNat q1 q5 q9 b13.toNat []).lawful = law at *
        clear Hdm2 Hunit hhead
        go_wp2_with fail
        refine (hlaw _ _ _).mono ?_
        rintro e W7 ⟨rfl, hb7⟩
        have hz7 := hz5.below hb7 hz5.lt
        have hb7' := hb5.trans (hb7.mono hsz5)
        have h14d : W7.cell? ⟨ad.block, ad.off + 14, none⟩ = some (.int .u8 (b14.toNat : Int)) :=
          ((hb7'.cell (p := ⟨ad.block, ad.off + 14, none⟩) (Nat.lt_of_lt_of_le hadB hB)).trans (hb5.cell (p := ⟨ad.block, ad.off + 14, none⟩) (Nat.lt_of_lt_of_le hadB hB)).symm).trans h14c
        clear hcz hcf hc5 hf5 hlaw hb7 h14c
        have hcz := hz7.cell
        have hcf := hz7.frozen
        have hwg : w.heap.size ≤ g := by have := Hg.out; omega
        have hB8 := hz7.store6 (.int .i64 0) (.int .u32 0) (.int .u32 0) (.int .u32 0) (.int .i64 0) (.slice none 0 0)
        have hb8 := below_store6 hb7' hwg (.int .i64 0) (.int .u32 0) (.int .u32 0) (.int .u32 0) (.int .i64 0) (.slice none 0 0)
        by_cases x43 : law = 43
        · subst x43
          go_wp2_with fail
          clear hcz hcf
          generalize (((((W7.setCell ⟨g, 0, none⟩ _).setCell ⟨g, 1, none⟩ _).setCell ⟨g, 2, none⟩ _).setCell ⟨g, 3, none⟩ _).setCell ⟨g, 4, none⟩ _).setCell ⟨g, 5, none⟩ _ = W8 at *
          have hc8 := hB8.cell
          have hdm : dm = (.zero, 43) := by rw [Hdm3.out]; simp
          subst hdm
          refine bodyPost_ret (v := .tuple #[unitVal .zero (.slice none 0 0), .int .i64 43]) (by simp [results, Tryz.results80, go_sem, unitVal, UnitM.zero, hc8]) rfl ⟨_, rfl, World.ownsRow_nil _ _ _ _, hb8⟩
        · have g43 : (law != 43) = true := by simpa using x43
          by_cases x44 : law = 44
          · subst x44
            go_wp2_with fail
            clear hcz hcf
            generalize (((((W7.setCell ⟨g, 0, none⟩ _).setCell ⟨g, 1, none⟩ _).setCell ⟨g, 2, none⟩ _).setCell ⟨g, 3, none⟩ _).setCell ⟨g, 4, none⟩ _).setCell ⟨g, 5, none⟩ _ = W8 at *
            have hc8 := hB8.cell
            have hdm : dm = (.zero, 44) := by rw [Hdm3.out]; simp
            subst hdm
            refine bodyPost_ret (v := .tuple #[unitVal .zero (.slice none 0 0), .int .i64 44]) (by simp [results, Tryz.results80, go_sem, unitVal, UnitM.zero, hc8]) rfl ⟨_, rfl, World.ownsRow_nil _ _ _ _, hb8⟩
          · have g44 : (law != 44) = true := by simpa using x44
            go_wp2_with fail
            clear hcz hcf
            generalize (((((W7.setCell ⟨g, 0, none⟩ _).setCell ⟨g, 1, none⟩ _).setCell ⟨g, 2, none⟩ _).setCell ⟨g, 3, none⟩ _).setCell ⟨g, 4, none⟩ _).setCell ⟨g, 5, none⟩ _ = W8 at *
            have hc8 := hB8.cell
            have hdm : dm = (.zero, 45) := by rw [Hdm3.out]; simp [x43, x44]
            subst hdm
            refine bodyPost_ret (v := .tuple #[unitVal .zero (.slice none 0 0), .int .i64 45]) (by simp [results, Tryz.results80, go_sem, unitVal, UnitM.zero, hc8]) rfl ⟨_, rfl, World.ownsRow_nil _ _ _ _, hb8⟩
end Go.Proofs.YtlldgfejcjnpkaaGreat
/- What is encoded is decoded: plain. -/
namespace Go.Proofs.YtlldgfejcjnpkaaGreat

theorem lawful_kind {u : UnitM} (h : u.lawful = 0) : 1 ≤ u.kind ∧ u.kind ≤ 22 := by
  unfold UnitM.lawful at h
  split at h
  · cases h
  · rename_i h1
    simp [isHost, isDev] at h1
    by_cases h2 : u.kind < 1 ∨ 5 < u.kind
    · have := h1 h2
      omega
    · omega
theorem lawful_flags2 {u : UnitM} (h : u.lawful = 0) : 0 ≤ u.flags ∧ u.flags ≤ 15 := by
  unfold UnitM.lawful at h
  split at h
  · cases h
  split at h
  · cases h
  split at h
  · cases h
  split at h
  · cases h
  split at h
  · cases h
  split at h
  · cases h
  · rename_i h1
    simp [flagOk] at h1
    omega
theorem byteOf_nat {n : Int} (h0 : 0 ≤ n) (h1 : n < 256) : (((byteOf n).toNat : Nat) : Int) = n := by
  rw [byteOf_val]
  omega
theorem ofInt_word {n : Int} (h : 0 ≤ n ∧ n < 4294967296) : (((BitVec.ofInt 32 n).toNat : Nat) : Int) = n := by
  simp [BitVec.toNat_ofInt]
  omega
theorem decode_encode {u : UnitM} (h : u.lawful = 0) (ho : u.Ok) : decodeM u.encode = (u, 0) := by
  have hd := UnitM.lawful_len h
  have hk := lawful_kind h
  have hf := lawful_flags2 h
  have he : u.encode = sealM u.body := by unfold UnitM.encode; rw [if_pos h]
  have hlen : u.body.length = 15 + u.data.length := by
    unfold UnitM.body wordBytes wordOf
    simp
    omega
  have hsl : (sealM u.body).length = u.data.length + 19 := by
    unfold sealM wordOf
    simp [hlen]
    omega
  have hcrc : crcOf 0#32 (sealM u.body) = 0#32 := by
    unfold sealM
    exact (crc_valid u.body _ _ _ _).2 rfl
  have hu : unitOf (sealM u.body) = u := by
    obtain ⟨kind, code, session, number, flags, data⟩ := u
    unfold unitOf
    rw [hsl]
    simp only at *
    have e1 : numAt (sealM (UnitM.body ⟨kind, code, session, number, flags, data⟩)) 1 = code := by
      unfold numAt sealM UnitM.body wordBytes wordOf
      simp only [List.cons_append, List.nil_append, List.getD_cons_succ, List.getD_cons_zero]
      rw [ofWord_wordOf]
      exact ofInt_word ho.code
    have e5 : numAt (sealM (UnitM.body ⟨kind, code, session, number, flags, data⟩)) 5 = session := by
      unfold numAt sealM UnitM.body wordBytes wordOf
      simp only [List.cons_append, List.nil_append, List.getD_cons_succ, List.getD_cons_zero]
      rw [ofWord_wordOf]
      exact ofInt_word ho.session
    have e9 : numAt (sealM (UnitM.body ⟨kind, code, session, number, flags, data⟩)) 9 = number := by
      unfold numAt sealM UnitM.body wordBytes wordOf
      simp only [List.cons_append, List.nil_append, List.getD_cons_succ, List.getD_cons_zero]
      rw [ofWord_wordOf]
      exact ofInt_word ho.number
    have e0 : (((sealM (UnitM.body ⟨kind, code, session, number, flags, data⟩)).getD 0 0).toNat : Int) = kind := by
      unfold sealM UnitM.body
      simp only [List.cons_append, List.nil_append, List.getD_cons_zero]
      exact byteOf_nat (by omega) (by omega)
    have e13 : (((sealM (UnitM.body ⟨kind, code, session, number, flags, data⟩)).getD 13 0).toNat : Int) = flags := by
      unfold sealM UnitM.body wordBytes wordOf
      simp only [List.cons_append, List.nil_append, List.getD_cons_succ, List.getD_cons_zero]
      exact byteOf_nat (by omega) (by omega)
    have ed : ((sealM (UnitM.body ⟨kind, code, session, number, flags, data⟩)).drop 15).take (data.length + 19 - 19) = data := by
      unfold sealM UnitM.body wordBytes wordOf
      simp
    rw [e0, e1, e5, e9, e13, ed]
  have h14 : ((sealM u.body).getD 14 0).toNat = u.data.length := by
    have : ((((sealM u.body).getD 14 0).toNat : Nat) : Int) = (u.data.length : Int) := by
      unfold sealM UnitM.body wordBytes wordOf
      simp only [List.cons_append, List.nil_append, List.getD_cons_succ, List.getD_cons_zero]
      exact byteOf_nat (by omega) (by omega)
    omega
  rw [he]
  unfold decodeM
  rw [if_neg (by omega), if_neg (by omega), if_neg (by simp [hcrc])]
  simp only [hu, h14, h]
  simp
end Go.Proofs.YtlldgfejcjnpkaaGreat
