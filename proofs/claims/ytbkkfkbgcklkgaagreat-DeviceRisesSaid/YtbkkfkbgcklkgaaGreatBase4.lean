/- The base of the laws, part 4: contracts and plain lemmas, no statement. -/
import Derived.Test.YtbkkfkbgcklkgaaGreatBase3
import Derived.Deep.RegionHeld3
import Derived.Test.YtbkkfkbgcklkgaaGreatProg
import Derived.Defers
import Derived.Laws.LoneSync
import Derived.Laws.Pointers
import Derived.RegionCalls
/- Bytes with a burst turned in them (parapethand.Burst). -/
namespace Go.Proofs.YtbkkfkbgcklkgaaGreat
open Go.RowKit
set_option maxHeartbeats 10000000
set_option maxRecDepth 100000

theorem xor8 (x y : Int) : bits .xor .u8 x y = ((BitVec.ofInt 8 x ^^^ BitVec.ofInt 8 y).toNat : Int) := by
  unfold bits
  have h := (BitVec.ofInt 8 x ^^^ BitVec.ofInt 8 y).isLt
  exact IntWalk.u8_in ((BitVec.ofInt 8 x ^^^ BitVec.ofInt 8 y).toNat : Int) ⟨by omega, by omega⟩
theorem xor_byte (b v : UInt8) : bits .xor .u8 (b.toNat : Int) (v.toNat : Int) = ((b ^^^ v).toNat : Int) := by
  rw [xor8]
  have e : ∀ c : UInt8, BitVec.ofInt 8 (c.toNat : Int) = c.toBitVec := fun c => by apply BitVec.eq_of_toNat_eq; simp
  rw [e, e]
  rfl
theorem bit_at : ∀ r < 8, ((128 : UInt8) >>> UInt8.ofNat r).toNat = 128 / 2 ^ r := by decide
theorem and1_32 (x : Int) (h0 : 0 ≤ x) (h1 : x < 4294967296) : bits .and .u32 x 1 = x % 2 := bits_mask .u32 32 (by decide) (fun n a b => IntWalk.u32_in n ⟨a, by simp at b; omega⟩) 1 (by decide) x h0 h1
theorem word_bit {word : Int} (h0 : 0 ≤ word) (h1 : word < 4294967296) (k : Nat) : (bits .and .u32 (word / 2 ^ k) 1 != 0) = wbit word k := by
  have a : 0 ≤ word / 2 ^ k := Int.ediv_nonneg h0 (Int.le_of_lt (Int.pow_pos (by decide)))
  have b : word / 2 ^ k ≤ word := Int.ediv_le_self _ h0
  rw [and1_32 _ a (by omega)]
  rfl
theorem turnTo_length (word : Int) (size frm : Nat) (b : List UInt8) : ∀ k, (turnTo word size frm b k).length = b.length
  | 0 => rfl
  | k + 1 => by
    unfold turnTo
    split
    · unfold turnBit
      rw [List.length_set, turnTo_length word size frm b k]
    · exact turnTo_length word size frm b k
theorem sizeTo_le (word : Int) : ∀ k, sizeTo word k ≤ k
  | 0 => Nat.le_refl _
  | k + 1 => by
    unfold sizeTo
    split
    · exact Nat.le_refl _
    · exact Nat.le_succ_of_le (sizeTo_le word k)
theorem rem_u64 {at_ : Int} {R fr : Nat} (hR0 : 1 ≤ R) (hR : R < 17179869184) (h : fr = (at_ % 18446744073709551616).toNat % R) : wrap64 ((IntKind.u64.wrap at_).tmod (R : Int)) = (fr : Int) := by
  have e : IntKind.u64.wrap at_ = (((at_ % 18446744073709551616).toNat : Nat) : Int) := by
    rw [IntKind.wrap_u64]
    omega
  have hf : fr < R := by rw [h]; exact Nat.mod_lt _ hR0
  rw [e, Int.tmod_eq_emod_of_nonneg (Int.natCast_nonneg _), ← Int.natCast_emod, ← h]
  exact IntWalk.wrap64_in (fr : Int) ⟨by omega, by omega⟩
theorem turn_step {word : Int} {sz fr k : Nat} {l : List UInt8} (h : wbit word (sz - 1 - k) = true) (j : Nat) (hj : j = fr + k) : turnTo word sz fr l (k + 1) = (turnTo word sz fr l k).set (j / 8) (((turnTo word sz fr l k).getD (j / 8) 0) ^^^ (128 >>> UInt8.ofNat (j % 8))) := by
  subst hj
  show (if _ then _ else _) = _
  rw [h, if_pos rfl]
  rfl
theorem turn_skip {word : Int} {sz fr k : Nat} {l : List UInt8} (h : wbit word (sz - 1 - k) = false) : turnTo word sz fr l (k + 1) = turnTo word sz fr l k := by
  show (if _ then _ else _) = _
  rw [h, if_neg (by decide)]
theorem burst_any (A : Option Addr) (n c B : Nat) (l : List UInt8) (at_ word : Int) (w : World) (hr : Reads w B 1 A n (u8c l)) (hB : B ≤ w.heap.size) (hn : n < 1073741824) (hw0 : 0 ≤ word ∧ word < 4294967296) :
    Calls Tryz.prog 34 #[.slice A n c, .int .i64 at_, .int .u32 word] w fun e w' => ∃ v, e = .returned (.tuple #[v, .bool (burstM l at_ word).isSome]) ∧ (burstM l at_ word = none → v = .slice none 0 0) ∧ (∀ b, burstM l at_ word = some b → w'.ownsRow w.heap.size 5 1 v b.length (u8c b)) ∧ Below w.heap.size w w' := by
  have hl : l.length = n := by have := hr.1; simpa [u8c] using this
  have Hl := Lib.hid hl
  obtain ⟨r, Hr⟩ : ∃ r, Hid (r = burstM l at_ word) := ⟨_, Lib.hid rfl⟩
  rw [← Hr.out]
  clear hl
  have hwb := fun k => word_bit hw0.1 hw0.2 k
  have Hwb := Lib.hid hwb
  clear hwb
  go_enter Tryz.func34, Tryz.ntmps34
  go_wp2_with fail
  go_loopg [8, 9] 32 (fun q v8 v9 wr => ∃ (k : Nat), k + q = 32 ∧ v9 = .int .i64 k ∧ v8 = .int .i64 (sizeTo word k : Nat) ∧ wr = w)
  case atStart => exact ⟨0, rfl, rfl, rfl, rfl⟩
  case round =>
    obtain ⟨k, hq, rfl, rfl, rfl⟩ := hrel
    have hg := Hwb.out k
    have Hs : Hid (sizeTo word (k + 1) = if wbit word k then k + 1 else sizeTo word k) := Lib.hid rfl
    by_cases hk : k < 32
    · cases hbk : wbit word k with
      | true =>
        rw [hbk] at hg Hs
        go_wp2_with fail
        go_roundg (32 - (k + 1))
        case measure => omega
        case rel => exact ⟨k + 1, by omega, by go_num, by rw [show sizeTo word (k + 1) = k + 1 by rw [Hs.out]; rfl]; go_num, rfl⟩
      | false =>
        rw [hbk] at hg Hs
        go_wp2_with fail
        go_roundg (32 - (k + 1))
        case measure => omega
        case rel => exact ⟨k + 1, by omega, by go_num, by rw [show sizeTo word (k + 1) = sizeTo word k by rw [Hs.out]; rfl], rfl⟩
    · obtain rfl : k = 32 := by omega
      clear hg Hs
      obtain ⟨W0, rfl⟩ : ∃ W : World, W = wr := ⟨_, rfl⟩
      have hsz := sizeTo_le word 32
      have Hb : Hid (burstM l at_ word = if sizeTo word 32 = 0 ∨ 8 * l.length < sizeTo word 32 then none else some (turnTo word (sizeTo word 32) ((at_ % 18446744073709551616).toNat % (8 * l.length - sizeTo word 32 + 1)) l (sizeTo word 32))) := Lib.hid rfl
      generalize sizeTo word 32 = sz at *
      have hln := Hl.out
      by_cases z1 : sz = 0
      · have hrn : r = none := by rw [Hr.out, Hb.out, if_pos (.inl z1)]
        subst hrn
        have gz : ((sz : Int) == 0) = true := by simpa using z1
        clear z1 hln
        go_wp2_with fail
        refine bodyPost_ret (v := .tuple #[.slice none 0 0, .bool false]) (by simp [results, Tryz.results34, go_sem]) rfl ⟨_, rfl, rfl, Below.refl _ _⟩
      have gz : ((sz : Int) == 0) = false := by simpa using z1
      by_cases z2 : 8 * n < sz
      · have hrn : r = none := by rw [Hr.out, Hb.out, if_pos (.inr (by omega))]
        subst hrn
        clear z1 hln
        go_wp2_with fail
        refine bodyPost_ret (v := .tuple #[.slice none 0 0, .bool false]) (by simp [results, Tryz.results34, go_sem]) rfl ⟨_, rfl, rfl, Below.refl _ _⟩
      obtain ⟨R, hR⟩ : ∃ R : Nat, 8 * n - sz + 1 = R := ⟨_, rfl⟩
      have hR1 : (8 : Int) * n - sz + 1 = (R : Int) := by omega
      have hR0 : 1 ≤ R := by omega
      obtain ⟨fr, Hfr⟩ : ∃ fr, Hid (fr = (at_ % 18446744073709551616).toNat % R) := ⟨_, Lib.hid rfl⟩
      have hfr : fr < R := by rw [Hfr.out]; exact Nat.mod_lt _ hR0
      have Hrs : Hid (r = some (turnTo word sz fr l sz)) := Lib.hid (by rw [Hr.out, Hb.out, if_neg (by omega), hln, hR, Hfr.out])
      have HR := Lib.hid hR
      clear hR hln Hb Hr
      have hrem := rem_u64 hR0 (by omega) Hfr.out
      obtain ⟨i0, hi0, hz0, hz1, hz2⟩ := info_parts byte_info
      go_wp2_with (at_builtin; refine wpList_append_any _ rfl (.tmp 44) (.tmp 45) _ rfl W0.heap.size 5 i0 _ 1 1 Tryz.underlying41 hi0 hz0 hz1 hz2 rfl (by omega) (.slice (some ⟨W0.heap.size, 0, none⟩) 0 0) 0 [] rfl (World.ownsRow_made W0 #[] 0 (Nat.le_refl _) (by unfold maxLen; omega) rfl) B A n c (u8c l) rfl (hr.alloc hB _) (u8c_one l) (by unfold maxLen; omega) (by omega) (by simp) ?_; intro v1 w1 hown1 hg1 hat1; rw [Nat.zero_add, List.nil_append] at hown1; obtain ⟨A1, c1, rfl⟩ := own_slice hown1)
      have hb1 := ((Below.refl W0.heap.size W0).alloc (Nat.le_refl _) (.cells #[] 5)).grown hg1 (by simp) (fun k hk => by simp [Value.ownBlock] at hk; omega)
      obtain ⟨g, rfl⟩ := own_some hown1 (by omega)
      have hgl := (hown1.lt g rfl)
      clear hg1 hat1 hrem
      have HrsF := Hrs
      clear Hrs
      go_wp2_with fail
      go_loopg [13, 14] sz (fun q v13 _v14 wl => ∃ (k : Nat), k + q = sz ∧ v13 = .int .i64 k ∧ wl.ownsRow W0.heap.size 5 1 (.slice (some ⟨g, 0, none⟩) n c1) n (u8c (turnTo word sz fr l k)) ∧ Below W0.heap.size W0 wl)
      case atStart => exact ⟨0, by omega, rfl, hown1, hb1⟩
      case round =>
        obtain ⟨k, hq2, e13, hown2, hb2⟩ := hrel
        subst e13
        by_cases hks : k < sz
        · have hg := Hwb.out (sz - 1 - k)
          have hsh : (sz : Int) - 1 - (k : Int) = ((sz - 1 - k : Nat) : Int) := by omega
          have HR1 := HR.out
          obtain ⟨j, hj⟩ : ∃ j : Nat, j = fr + k := ⟨_, rfl⟩
          have hj1 : (fr : Int) + (k : Int) = (j : Int) := by omega
          have hj8 : j / 8 < n := by omega
          have Hj := Lib.hid hj
          have Hj8 := Lib.hid hj8
          have Hhg := Lib.hid hg
          clear hg hj hj8 HR1
          cases hbk : wbit word (sz - 1 - k) with
          | true =>
            have hts := turn_step (fr := fr) (l := l) hbk j Hj.out
            have Hts := Lib.hid hts
            rw [hbk] at Hhg
            have hg := Hhg.out
            have hcell : wr.cell? ⟨g, j / 8, none⟩ = some (.int .u8 (((turnTo word sz fr l k).getD (j / 8) 0).toNat : Int)) := by have h := (Reads.of_own hown2).byte (j / 8) Hj8.out; have e : (⟨g, 0, none⟩ : Addr).add (j / 8) = ⟨g, j / 8, none⟩ := (by by_cases h : j / 8 = 0 <;> simp [Addr.add, h]); rw [e] at h; exact h
            have hfz := (own_at (k := j / 8) hown2).1
            have hj1' : j = fr + k := Hj.out
            have hjlt : j < 8 * n := by have := HR.out; omega
            have hdiv : (j : Int).tdiv 8 = ((j / 8 : Nat) : Int) := by rw [Int.tdiv_eq_ediv_of_nonneg (Int.natCast_nonneg _)]; rfl
            have hmod : (j : Int).tmod 8 = ((j % 8 : Nat) : Int) := by rw [Int.tmod_eq_emod_of_nonneg (Int.natCast_nonneg _)]; rfl
            have hxb := xor_byte ((turnTo word sz fr l k).getD (j / 8) 0) ((128 : UInt8) >>> UInt8.ofNat (j % 8))
            rw [bit_at (j % 8) (Nat.mod_lt _ (by decide)), show ((128 / 2 ^ (j % 8) : Nat) : Int) = 128 / 2 ^ (j % 8) by simp] at hxb
            have hb3 : Below W0.heap.size W0 (wr.setCell ⟨g, j / 8, none⟩ (.int .u8 ((((turnTo word sz fr l k).getD (j / 8) 0) ^^^ ((128 : UInt8) >>> UInt8.ofNat (j % 8))).toNat : Int))) := hb2.setCell hgl.1 _
            have hown3 := own_set1 hown2 (j / 8) (.int .u8 ((((turnTo word sz fr l k).getD (j / 8) 0) ^^^ ((128 : UInt8) >>> UInt8.ofNat (j % 8))).toNat : Int))
            have hset : (u8c (turnTo word sz fr l k)).set (j / 8) (.int .u8 ((((turnTo word sz fr l k).getD (j / 8) 0) ^^^ ((128 : UInt8) >>> UInt8.ofNat (j % 8))).toNat : Int)) = u8c (turnTo word sz fr l (k + 1)) := by rw [Hts.out]; simp [u8c, List.map_set]
            rw [hset] at hown3
            have Hown3 := Lib.hid hown3
            have Hb3 := Lib.hid hb3
            generalize (turnTo word sz fr l k).getD (j / 8) 0 = x at *
            generalize (128 : UInt8) >>> UInt8.ofNat (j % 8) = y at *
            have hjn : ((j / 8 : Nat) : Int) < (n : Int) := by have := Hj8.out; omega
            have hj0 : (0 : Int) ≤ ((j / 8 : Nat) : Int) := Int.natCast_nonneg _
            clear hts hbk hown3 hb3 hset Hts hj1'
            have hmn : min (j % 8) 8 = j % 8 := Nat.min_eq_left (by have := Nat.mod_lt j (show 0 < 8 by decide); omega)
            have Hmn := Lib.hid hmn
            have Hxb := Lib.hid hxb
            clear hmn hxb
            generalize j / 8 = j8 at *
            generalize j % 8 = jr at *
            go_wp2_with fail
            go_region
            rw [Hmn.out, Hxb.out]
            go_wp2_with fail
            go_roundg (sz - (k + 1))
            case measure => omega
            case rel => exact ⟨k + 1, by omega, by go_num, Hown3.out, Hb3.out.drew⟩
          | false =>
            have hts := turn_skip (fr := fr) (l := l) hbk
            have Hts := Lib.hid hts
            rw [hbk] at Hhg
            have hg := Hhg.out
            clear hts hbk
            go_wp2_with fail
            go_roundg (sz - (k + 1))
            case measure => omega
            case rel => exact ⟨k + 1, by omega, by go_num, by rw [Hts.out]; exact hown2, hb2⟩
        · obtain rfl : k = sz := by omega
          have hrs := HrsF.out
          subst hrs
          go_wp2_with fail
          refine bodyPost_ret (v := .tuple #[.slice (some ⟨g, 0, none⟩) n c1, .bool true]) (by simp [results, Tryz.results34, go_sem]) rfl ⟨_, rfl, ?_, hb2⟩
          rw [turnTo_length, Hl.out]
          exact hown2
theorem burst_length {b x : List UInt8} {at_ word : Int} (h : burstM b at_ word = some x) : x.length = b.length := by
  unfold burstM at h
  simp only at h
  split at h
  · cases h
  · injection h with h
    subst h
    exact turnTo_length _ _ _ _ _
theorem addU_ok (a b : Int) : 0 ≤ addU a b ∧ addU a b < 4294967296 := by unfold addU; omega
theorem addU_wrap (a b : Int) : IntKind.u32.wrap (a + IntKind.u32.wrap b) = addU a b := by
  rw [IntKind.wrap_u32, IntKind.wrap_u32]
  unfold addU
  omega
theorem encode_small (u : UnitM) : u.encode.length ≤ 1000 := by
  unfold UnitM.encode
  split
  · rename_i h
    have := UnitM.lawful_len h
    simp [sealM, UnitM.body, wordBytes, wordOf]
    omega
  · simp
end Go.Proofs.YtbkkfkbgcklkgaaGreat
/- The reference's check (parapetref02): Word, Sum, Seal, Valid. -/
namespace Go.Proofs.YtbkkfkbgcklkgaaGreat
open Go.RowKit
set_option maxHeartbeats 4000000
set_option maxRecDepth 100000

theorem rword_any (s : BitVec 32) (w : World) : Calls Tryz.prog 62 #[u32v s] w fun e w' => ∃ v, e = .returned v ∧ w'.ownsRow w.heap.size 5 1 v 4 (u8c (wordOf s)) ∧ Below w.heap.size w w' := by
  have hown : (w.alloc (.cells #[Value.int .u8 ((s.toNat : Int) / 16777216), .int .u8 ((s.toNat : Int) / 65536 % 256), .int .u8 ((s.toNat : Int) / 256 % 256), .int .u8 ((s.toNat : Int) % 256)] 5)).ownsRow w.heap.size 5 1 (.slice (some ⟨w.heap.size, 0, none⟩) 4 4) 4 (u8c (wordOf s)) := by
    have := own_full w #[Value.int .u8 ((s.toNat : Int) / 16777216), .int .u8 ((s.toNat : Int) / 65536 % 256), .int .u8 ((s.toNat : Int) / 256 % 256), .int .u8 ((s.toNat : Int) % 256)] 5 w.heap.size (Nat.le_refl _) (by simp [maxLen])
    rw [word_cells] at this ⊢
    simpa [u8c, wordOf] using this
  go_enter Tryz.func62, Tryz.ntmps62
  go_wp2_with fail
  go_ret
  exact ⟨_, rfl, by simpa using hown, (Below.refl _ _).alloc (Nat.le_refl _) _⟩
theorem rsum_any (A : Option Addr) (n c : Nat) (l : List UInt8) (B : Nat) (w : World) (hr : Reads w B 1 A n (u8c l)) (hB : B ≤ w.heap.size) (hn : n < 900000) :
    Calls Tryz.prog 63 #[.slice A n c] w fun e w' => e = .returned (u32v (crcOf 0#32 l)) ∧ Below w.heap.size w w' := by
  obtain ⟨i0, hi0, hz0, hz1, hz2⟩ := info_parts byte_info
  have hmk := fun w => run_room (t := 41) (z := .int .u8 0) Tryz.underlying41 byte_info rfl (n + 4) (by omega) w
  rw [show ((n + 4 : Nat) : Int) = (n : Int) + 4 by simp] at hmk
  have hown0 := own_room w (.int .u8 0) 5 (n + 4) (by omega)
  have hb0 : Below w.heap.size w (w.alloc (.cells (madeCells #[.int .u8 0] (n + 4)) 5)) := (Below.refl _ _).alloc (Nat.le_refl _) _
  have hwr := fun (x : BitVec 32) => (show IntKind.u32.wrap (x.toNat : Int) = (x.toNat : Int) from IntWalk.u32_in _ (by have := x.isLt; omega))
  have hzr : ∀ (W : World), Reads (W.alloc (.cells #[Value.int .u8 0, .int .u8 0, .int .u8 0, .int .u8 0] 5)) (W.heap.size + 1) 1 (some ⟨W.heap.size, 0, none⟩) 4 (u8c [0, 0, 0, 0]) := fun W => Reads.of_blk (Blk.new W _ _) (by omega) rfl
  go_enter Tryz.func63, Tryz.ntmps63
  go_wp2_with (first
    | (at_builtin; refine wpList_append_any _ rfl (.tmp 9) (.tmp 10) _ rfl w.heap.size 5 i0 _ 1 1 Tryz.underlying41 hi0 hz0 hz1 hz2 rfl (by omega) (.slice (some ⟨w.heap.size, 0, none⟩) 0 (n + 4)) 0 [] rfl hown0 B A n c (u8c l) rfl (hr.alloc hB _) (u8c_one l) (by unfold maxLen; omega) (by omega) (by simp) ?_; intro v1 w1 hown1 hg1 hat1; rw [Nat.zero_add, List.nil_append] at hown1; obtain ⟨A1, c1, rfl⟩ := own_slice hown1; have hb1 := hb0.grown hg1 (by simp) (fun k hk => by simp [Value.ownBlock] at hk; omega); have hlt1 := hown1.lt)
    | (at_builtin; refine wpList_append_any _ rfl (.tmp 11) (.tmp 12) _ rfl w.heap.size 5 i0 _ 1 1 Tryz.underlying41 hi0 hz0 hz1 hz2 rfl (by omega) (.slice A1 n c1) n (u8c l) rfl (hown1.alloc _) (w1.heap.size + 1) (some ⟨w1.heap.size, 0, none⟩) 4 4 (u8c [0, 0, 0, 0]) rfl (hzr _) (u8c_one _) (by unfold maxLen; omega) (by omega) (by have := hb1.size; simp; omega) ?_; intro v2 w2 hown2 hg2 hat2; obtain ⟨A2, c2, rfl⟩ := own_slice hown2; have hb2 := (hb1.alloc hb1.size _).grown hg2 (by have := hb1.size; simp; omega) (fun k hk => (hlt1 k hk).1)))
  clear hmk hown0 hb0 hg1 hg2 hat1 hat2 hown1 hb1 hlt1 hzr
  refine (refOf_any A2 (n + 4) c2 (l ++ [0, 0, 0, 0]) w2.heap.size w2 (by rw [u8c_append]; exact Reads.of_own hown2) (Nat.le_refl _) (by omega)).mono ?_
  rintro e w3 ⟨rfl, hb3⟩
  rw [crc_same]
  have hb4 := hb2.trans (hb3.mono hb2.size)
  go_wp2_with fail
  go_ret
  exact ⟨rfl, hb4⟩
/-- string(b) of bytes that read as l. -/
theorem conv_reads {w : World} {B n c : Nat} {A : Option Addr} {l : List UInt8} (hr : Reads w B 1 A n (u8c l)) : (convert 41 9 (.slice A n c)).run Tryz.prog w = .ok (.string ⟨l.toArray⟩) w := by
  have hl : l.length = n := by have := hr.1; simpa [u8c] using this
  cases A with
  | none =>
    have h0 : n = 0 := by
      rcases Nat.eq_zero_or_pos n with h | h
      · exact h
      · obtain ⟨ad, h, _⟩ := hr.2 h; cases h
    subst h0
    obtain rfl : l = [] := List.eq_nil_of_length_eq_zero hl
    exact run_convert_bytes_nil w 41 5 Tryz.underlying41 Tryz.underlying5 0 c 9 Tryz.underlying9
  | some ad =>
    have hload : (loadCells ad n).run Tryz.prog w = .ok ((l.map fun c => (c.toNat : Int)).map (Value.int .u8)).toArray w := by
      have := run_loadCells_list (P := Tryz.prog) w ad (u8c l) (fun j v hj => by
        have hjl : j < n := by
          have := (List.getElem?_eq_some_iff.1 hj).1
          rw [u8c_length, hl] at this
          exact this
        obtain ⟨ad', e, _, hc⟩ := hr.2 (by omega)
        injection e with e
        subst e
        exact hc j v hj)
      rw [u8c_length, hl] at this
      rw [this]
      simp [u8c]
    rw [run_convert_bytes_string w _ _ _ _ n c Tryz.underlying41 Tryz.underlying5 Tryz.underlying9, run_bytesToString w ad n c _ hload, foldl_push_bytes]
    have e : ∀ l : List UInt8, List.map ((fun n : Int => UInt8.ofNat n.toNat) ∘ fun c : UInt8 => (c.toNat : Int)) l = l := fun l => by
      induction l with
      | nil => rfl
      | cons x l ih => rw [List.map_cons, ih]; simp
    simp [ByteArray.empty, ByteArray.emptyWithCapacity]
    exact e l
theorem rseal_any (A : Option Addr) (n c : Nat) (l : List UInt8) (B : Nat) (w : World) (hr : Reads w B 1 A n (u8c l)) (hB : B ≤ w.heap.size) (hn : n ≤ 100000) :
    Calls Tryz.prog 111 #[.slice A n c] w fun e w' => ∃ v, e = .returned v ∧ w'.ownsRow w.heap.size 5 1 v (n + 4) (u8c (sealM l)) ∧ Below w.heap.size w w' := by
  obtain ⟨i0, hi0, hz0, hz1, hz2⟩ := info_parts byte_info
  go_enter Tryz.func111, Tryz.ntmps111
  go_wp2_with (at_builtin; refine wpList_append_any _ rfl (.tmp 3) (.tmp 4) _ rfl w.heap.size 5 i0 _ 1 1 Tryz.underlying41 hi0 hz0 hz1 hz2 rfl (by omega) (.slice (some ⟨w.heap.size, 0, none⟩) 0 0) 0 [] rfl (World.ownsRow_made w #[] 0 (Nat.le_refl _) (by unfold maxLen; omega) rfl) B A n c (u8c l) rfl (hr.alloc hB _) (u8c_one l) (by unfold maxLen; omega) (by omega) (by simp) ?_; intro v1 w1 hown1 hg1 hat1; rw [Nat.zero_add, List.nil_append] at hown1; obtain ⟨A1, c1, rfl⟩ := own_slice hown1)
  have hb1 := ((Below.refl w.heap.size w).alloc (Nat.le_refl _) (.cells #[] 5)).grown hg1 (by simp) (fun k hk => by simp [Value.ownBlock] at hk; omega)
  refine (rsum_any A n c l B w1 (hr.below (hb1.mono hB)) (by have := hb1.size; omega) (by omega)).mono ?_
  rintro e w2 ⟨rfl, hb2⟩
  have hb2' := hb1.trans (hb2.mono hb1.size)
  have hown2 := own_below hown1 hb2
  clear hg1 hat1
  go_wp2_with fail
  refine (rword_any _ w2).mono ?_
  rintro e w3 ⟨v3, rfl, hown3, hb3⟩
  obtain ⟨A3, c3, rfl⟩ := own_slice hown3
  have hb3' := hb2'.trans (hb3.mono hb2'.size)
  have hown4 := own_below hown2 hb3
  have hlt4 := hown4.lt
  go_wp2_with (at_builtin; refine wpList_append_any _ rfl (.tmp 5) (.tmp 8) _ rfl w.heap.size 5 i0 _ 1 1 Tryz.underlying41 hi0 hz0 hz1 hz2 rfl (by omega) (.slice A1 n c1) n (u8c l) rfl hown4 w3.heap.size A3 4 c3 (u8c (wordOf (crcOf 0#32 l))) rfl (Reads.of_own hown3) (u8c_one _) (by unfold maxLen; omega) (by omega) hb3'.size ?_; intro v5 w5 hown5 hg5 hat5)
  go_ret
  refine ⟨_, rfl, ?_, hb3'.grown hg5 hb3'.size (fun k hk => (hlt4 k hk).1)⟩
  unfold sealM; rw [u8c_append]; exact hown5
theorem four_of {l : List UInt8} {n : Nat} (h : l.length = n + 4) : ∃ p a b c d, l = p ++ [a, b, c, d] ∧ p.length = n := by
  refine ⟨l.take n, (l.drop n).getD 0 0, (l.drop n).getD 1 0, (l.drop n).getD 2 0, (l.drop n).getD 3 0, ?_, by simp [h]⟩
  have hd : (l.drop n).length = 4 := by simp [h]
  match hq : l.drop n, hd with
  | [a, b, c, d], _ =>
    have := List.take_append_drop n l
    rw [hq] at this
    simpa using this.symm
theorem Reads.tail {w : World} {B : Nat} {ad : Addr} {n : Nat} {p q : List UInt8} (hp : p.length = n) (h : Reads w B 1 (some ad) (n + q.length) (u8c (p ++ q))) : Reads w B 1 (some (ad.add n)) q.length (u8c q) := by
  refine ⟨by simp [u8c], fun hm => ?_⟩
  obtain ⟨ad', e, hb, hc⟩ := h.2 (by omega)
  injection e with e
  subst e
  refine ⟨_, rfl, by rw [block_of_add]; exact hb, fun j u hu => ?_⟩
  rw [add_of_add]
  apply hc
  rw [u8c_append, List.getElem?_append_right (by rw [u8c_length]; omega), u8c_length, hp, Nat.add_sub_cancel_left]
  exact hu
theorem Reads.head {w : World} {B : Nat} {A : Option Addr} {n m : Nat} {p q : List UInt8} (hp : p.length = n) (h : Reads w B 1 A m (u8c (p ++ q))) (hnm : n ≤ m) : Reads w B 1 A n (u8c p) := by
  refine ⟨by simp [u8c, hp], fun hn => ?_⟩
  obtain ⟨ad', e, hb, hc⟩ := h.2 (by omega)
  refine ⟨ad', e, hb, fun j u hu => ?_⟩
  apply hc
  rw [u8c_append, List.getElem?_append_left (List.getElem?_eq_some_iff.1 hu).1]
  exact hu
theorem cut_tail (ad : Addr) (n m c : Nat) (h : n ≤ m) (hc : ¬ c = n) (W : World) : (Instr.slice 41 (.slice (some ad) m c) (some (.int .i64 (n : Int))) none none).run Tryz.prog W = .ok (.slice (some (ad.add n)) (m - n) (c - n)) W := by
  rw [run_slice_l (P := Tryz.prog) (w := W) 41 _ _ _ (by kernel_rfl) .i64 n (by omega) (by omega)]
  have hs : (sizeOf ((Tryz.prog).elem 41)).run Tryz.prog W = .ok 1 W := by kernel_rfl
  rw [hs]
  simp [Result.andThen, sliced, hc]
theorem cut_head (ad : Addr) (n m c : Nat) (h : n ≤ c) (W : World) : (Instr.slice 41 (.slice (some ad) m c) none (some (.int .i64 (n : Int))) none).run Tryz.prog W = .ok (.slice (some ad) n c) W := by
  rw [run_slice_h (P := Tryz.prog) (w := W) 41 _ _ _ (by kernel_rfl) .i64 n (by omega) (by omega)]
  have hs : (sizeOf ((Tryz.prog).elem 41)).run Tryz.prog W = .ok 1 W := by kernel_rfl
  rw [hs]
  simp [Result.andThen, sliced, Addr.add]
theorem rvalid_any (ad : Addr) (N n c : Nat) (p : List UInt8) (a b c' d : UInt8) (B : Nat) (w : World) (hN : N = n + 4) (hp : p.length = n) (hr : Reads w B 1 (some ad) N (u8c (p ++ [a, b, c', d]))) (hB : B ≤ w.heap.size) (hc : N ≤ c) (hn : n ≤ 1000) :
    Calls Tryz.prog 70 #[.slice (some ad) N c] w fun e w' => e = .returned (.bool (crcOf 0#32 (p ++ [a, b, c', d]) == 0#32)) ∧ Below w.heap.size w w' := by
  have hv := crc_valid p a b c' d
  have h4 : (4 : Int) ≤ (N : Int) := by omega
  have hx1 := fun W => cut_tail ad n N c (by omega) (by omega) W
  rw [show N - n = 4 by omega] at hx1
  have hx2 := fun W => cut_head ad n N c (by omega) W
  have hw1 : IntKind.i64.wrap ((N : Int) - 4) = (n : Int) := by rw [IntWalk.i64_in _ (by omega)]; omega
  rw [hN] at hr
  have Hr := Lib.hid hr.drew
  have Hp := Lib.hid hp
  have Hv := Lib.hid hv
  have Hn := Lib.hid hn
  have HB := Lib.hid hB
  have HN := Lib.hid hN
  clear hr hp hv hn hN hB hc
  go_enter Tryz.func70, Tryz.ntmps70
  go_wp2_with fail
  go_region_held (fun w' => (convert 41 9 (.slice (some (ad.add n)) 4 (c - n))).run Tryz.prog w' = .ok (.string ⟨[a, b, c', d].toArray⟩) w') (with_reducible (first | exact conv_reads (Reads.tail Hp.out Hr.out))) (first
    | (go_at_call 63; refine (rsum_any _ n c p B _ (Reads.head Hp.out Hr.out (by omega)) HB.out (by have := Hn.out; omega)).mono ?_; rintro e W1 ⟨rfl, hb1⟩; have Hr1 := Lib.hid (Hr.out.below (hb1.mono HB.out)); clear Hr; have Hr := Hr1; clear Hr1)
    | (go_at_call 62; refine (rword_any _ _).mono ?_; rintro e W2 ⟨v, rfl, hown, hb2⟩; have hs1 := hb1.size; have hs2 : B ≤ W1.heap.size := Nat.le_trans HB.out hs1; have Hr2 := Lib.hid (Hr.out.below (hb2.mono hs2)); clear Hr; have Hr := Hr2; clear Hr2; obtain ⟨A3, c3, hv3⟩ := own_slice hown; subst hv3; have hcv := conv_reads (c := c3) (Reads.of_own hown)))
  all_goals
    go_wp2_with fail
    go_ret
    refine ⟨?_, ((Below.refl w.heap.size w).drew.trans hb1).trans (hb2.mono (show w.heap.size ≤ W1.heap.size from hs1))⟩
    have e : ([a, b, c', d] == wordOf (crcOf 0#32 p)) = (crcOf 0#32 (p ++ [a, b, c', d]) == 0#32) := by
      rw [Bool.eq_iff_iff]
      simp only [beq_iff_eq]
      exact Hv.out.symm
    exact congrArg (fun x => Ending.returned (Value.bool x)) e
end Go.Proofs.YtbkkfkbgcklkgaaGreat
/- The reference's units (parapetref04): Word, Host, Device, data, Lawful. -/
namespace Go.Proofs.YtbkkfkbgcklkgaaGreat
open Go.RowKit
set_option maxHeartbeats 4000000
set_option maxRecDepth 100000

theorem r4word_any (ad : Addr) (n c : Nat) (b0 b1 b2 b3 : UInt8) (w : World) (hn : 4 ≤ n) (h0 : w.cell? (ad.add 0) = some (.int .u8 (b0.toNat : Int))) (h1 : w.cell? (ad.add 1) = some (.int .u8 (b1.toNat : Int)))
    (h2 : w.cell? (ad.add 2) = some (.int .u8 (b2.toNat : Int))) (h3 : w.cell? (ad.add 3) = some (.int .u8 (b3.toNat : Int))) :
    Calls Tryz.prog 71 #[.slice (some ad) n c] w fun e w' => e = .returned (u32v (ofWord b0 b1 b2 b3)) ∧ ∃ k, w' = w.drewN k := by
  have g0 : (0 : Int) < n := by omega
  have g1 : (1 : Int) < n := by omega
  have g2 : (2 : Int) < n := by omega
  have g3 : (3 : Int) < n := by omega
  rw [show ad.add 0 = ad from rfl] at h0
  rw [show ad.add 1 = ⟨ad.block, ad.off + 1, none⟩ from rfl] at h1
  rw [show ad.add 2 = ⟨ad.block, ad.off + 2, none⟩ from rfl] at h2
  rw [show ad.add 3 = ⟨ad.block, ad.off + 3, none⟩ from rfl] at h3
  go_enter Tryz.func71, Tryz.ntmps71
  go_wp2_with fail
  go_big_quiet (fail)
  go_wp2_with fail
  go_ret
  refine ⟨?_, _, rfl⟩
  exact congrArg (fun x => Ending.returned (Value.int .u32 x)) (get_word b0 b1 b2 b3)
theorem r4host_any (k : Int) (w : World) : Calls Tryz.prog 51 #[.int .i64 k] w fun e w' => e = .returned (.bool (isHost k)) ∧ w' = w := by
  by_cases h1 : 1 ≤ k
  · go_enter Tryz.func51, Tryz.ntmps51
    go_wp2_with fail
    go_ret
    exact ⟨by simp [isHost, h1], rfl⟩
  · go_enter Tryz.func51, Tryz.ntmps51
    go_wp2_with fail
    go_ret
    exact ⟨by simp [isHost]; omega, rfl⟩
theorem r4device_any (k : Int) (w : World) : Calls Tryz.prog 117 #[.int .i64 k] w fun e w' => e = .returned (.bool (isDev k)) ∧ w' = w := by
  by_cases h1 : 17 ≤ k
  · go_enter Tryz.func117, Tryz.ntmps117
    go_wp2_with fail
    go_ret
    exact ⟨by simp [isDev, h1], rfl⟩
  · go_enter Tryz.func117, Tryz.ntmps117
    go_wp2_with fail
    go_ret
    exact ⟨by simp [isDev]; omega, rfl⟩
theorem r4data_any (k : Int) (n : Nat) (w : World) : Calls Tryz.prog 118 #[.int .i64 k, .int .i64 (n : Int)] w fun e w' => e = .returned (.bool (dataOk k n)) ∧ w' = w := by
  have e4 : ((n : Int) == 4) = (n == 4) := by rw [Bool.eq_iff_iff]; simp; omega
  have e0 : ((n : Int) == 0) = (n == 0) := by rw [Bool.eq_iff_iff]; simp
  by_cases h1 : k = 1 ∨ k = 2 ∨ k = 17
  · have e : dataOk k n = (n == 4) := by unfold dataOk; rw [if_pos h1]
    rw [e, ← e4]
    clear e e4 e0
    rcases h1 with rfl | rfl | rfl
    all_goals
      go_enter Tryz.func118, Tryz.ntmps118
      go_wp2_with fail
      go_ret
      exact ⟨rfl, rfl⟩
  by_cases h2 : k = 4 ∨ k = 20
  · have e : dataOk k n = decide (1 ≤ n ∧ n ≤ 8) := by unfold dataOk; rw [if_neg h1, if_pos h2]
    rw [e]
    clear e e4 e0
    rcases h2 with rfl | rfl
    all_goals
      by_cases h3 : 1 ≤ (n : Int)
      · go_enter Tryz.func118, Tryz.ntmps118
        go_wp2_with fail
        go_ret
        refine ⟨?_, rfl⟩
        have h4 : 1 ≤ n := by omega
        refine congrArg (fun x => Ending.returned (Value.bool x)) ?_
        rw [Bool.eq_iff_iff]
        simp [h4]
        try omega
      · go_enter Tryz.func118, Tryz.ntmps118
        go_wp2_with fail
        go_ret
        refine ⟨?_, rfl⟩
        have h4 : ¬ 1 ≤ n := by omega
        simp [h4]
  · have e : dataOk k n = (n == 0) := by unfold dataOk; rw [if_neg h1, if_neg h2]
    rw [e, ← e0]
    simp only [not_or] at h1 h2
    have g1 : (k == 1) = false := by simpa using h1.1
    have g2 : (k == 2) = false := by simpa using h1.2.1
    have g3 : (k == 17) = false := by simpa using h1.2.2
    have g4 : (k == 4) = false := by simpa using h2.1
    have g5 : (k == 20) = false := by simpa using h2.2
    clear e e4 e0 h1 h2
    go_enter Tryz.func118, Tryz.ntmps118
    go_wp2_with fail
    go_ret
    exact ⟨rfl, rfl⟩
theorem r4lawful_any (u : UnitM) (A : Option Addr) (c : Nat) (w : World) (hs : 0 ≤ u.session) (hn : 0 ≤ u.number) :
    Calls Tryz.prog 72 #[unitVal u (.slice A u.data.length c)] w fun e w' => e = .returned (.int .i64 u.lawful) ∧ Below w.heap.size w w' := by
  obtain ⟨kind, code, session, number, flags, data⟩ := u
  unfold unitVal
  simp only at *
  have hb : ∀ cs t, Below w.heap.size w (w.alloc (.cells cs t)) := fun cs t => (Below.refl _ _).alloc (Nat.le_refl _) _
  have hh := r4host_any kind
  have hd := r4device_any kind
  have hda := r4data_any kind data.length
  obtain ⟨law, Hlaw⟩ : ∃ x, Hid (x = (UnitM.mk kind code session number flags data).lawful) := ⟨_, Lib.hid rfl⟩
  rw [← Hlaw.out]
  by_cases hk : kind = 1 ∨ kind = 2 ∨ kind = 17 ∨ kind = 3 ∨ kind = 18 ∨ kind = 19 ∨ kind = 4 ∨ kind = 20 ∨ kind = 5 ∨ kind = 21 ∨ kind = 22
  · rcases hk with rfl | rfl | rfl | rfl | rfl | rfl | rfl | rfl | rfl | rfl | rfl
    all_goals
      go_enter Tryz.func72, Tryz.ntmps72
      go_wp2_with (first
        | (go_at_call 51; refine (hh _).mono ?_; rintro e w1 ⟨rfl, rfl⟩)
        | (go_at_call 117; refine (hd _).mono ?_; rintro e w1 ⟨rfl, rfl⟩)
        | (go_at_call 118; refine (hda _).mono ?_; rintro e w1 ⟨rfl, rfl⟩))
      all_goals
        go_ret
        refine ⟨?_, hb _ _⟩
        clear hh hd hda hb
        rw [Hlaw.out]
        clear Hlaw
        refine congrArg (fun x => Ending.returned (Value.int .i64 x)) ?_
        simp_all [UnitM.lawful, isHost, isDev, sessOk, numOk, flagOk]
        try omega
  · have e : (UnitM.mk kind code session number flags data).lawful = 43 := by
      have h1 : isHost kind = false := by simp [isHost]; omega
      have h2 : isDev kind = false := by simp [isDev]; omega
      simp [UnitM.lawful, h1, h2]
    have h1 : isHost kind = false := by simp [isHost]; omega
    have h2 : isDev kind = false := by simp [isDev]; omega
    rw [h1] at hh
    rw [h2] at hd
    rw [e] at Hlaw
    have hl := Hlaw.out
    subst hl
    simp only [not_or] at hk
    obtain ⟨n1, n2, n3, n4, n5, n6, n7, n8, n9, n10, n11⟩ := hk
    have g4 : (kind == 4) = false := by simpa using n7
    have g20 : (kind == 20) = false := by simpa using n8
    have g5 : (kind == 5) = false := by simpa using n9
    have g21 : (kind == 21) = false := by simpa using n10
    clear n1 n2 n3 n4 n5 n6 n7 n8 n9 n10 n11 e hda Hlaw
    go_enter Tryz.func72, Tryz.ntmps72
    go_wp2_with (first
      | (go_at_call 51; refine (hh _).mono ?_; rintro e w1 ⟨rfl, rfl⟩)
      | (go_at_call 117; refine (hd _).mono ?_; rintro e w1 ⟨rfl, rfl⟩))
    go_ret
    exact ⟨rfl, hb _ _⟩
end Go.Proofs.YtbkkfkbgcklkgaaGreat
/- The reference's Encode (parapetref04). -/
namespace Go.Proofs.YtbkkfkbgcklkgaaGreat
open Go.RowKit
set_option maxHeartbeats 10000000
set_option maxRecDepth 100000

theorem r4encode_any (u : UnitM) (A : Option Addr) (c B : Nat) (w : World) (ho : u.Ok) (hr : Reads w B 1 A u.data.length (u8c u.data)) (hB : B ≤ w.heap.size) :
    Calls Tryz.prog 60 #[unitVal u (.slice A u.data.length c)] w fun e w' => ∃ v, e = .returned (.tuple #[v, .int .i64 u.lawful]) ∧ w'.ownsRow w.heap.size 5 1 v u.encode.length (u8c u.encode) ∧ Below w.heap.size w w' := by
  obtain ⟨i0, hi0, hz0, hz1, hz2⟩ := info_parts byte_info
  have hlaw := fun w => r4lawful_any u A c w ho.session.1 ho.number.1
  have hlen := @UnitM.lawful_len u
  obtain ⟨code, hcode⟩ := word_ex ho.code
  obtain ⟨session, hsession⟩ := word_ex ho.session
  obtain ⟨number, hnumber⟩ := word_ex ho.number
  have henc : u.encode = if u.lawful = 0 then sealM (([byteOf u.kind] ++ wordOf code ++ wordOf session ++ wordOf number ++ [byteOf u.flags, byteOf u.data.length]) ++ u.data) else [] := by
    unfold UnitM.encode UnitM.body
    rw [hcode, hsession, hnumber, wordBytes_nat, wordBytes_nat, wordBytes_nat]
  obtain ⟨enc, he⟩ : ∃ enc, enc = u.encode := ⟨_, rfl⟩
  rw [← he]
  rw [← he] at henc
  clear he
  generalize u.lawful = law at *
  obtain ⟨kind, code', session', number', flags, data⟩ := u
  simp only at *
  subst hcode hsession hnumber
  unfold unitVal at *
  simp only at *
  have Henc := Lib.hid henc
  clear henc ho
  go_enter Tryz.func60, Tryz.ntmps60
  go_wp2_with fail
  refine (hlaw _).mono ?_
  rintro e w1 ⟨rfl, hb1⟩
  have hb1' : Below w.heap.size w w1 := ((Below.refl _ _).alloc (Nat.le_refl _) _).trans (hb1.mono (by simp))
  by_cases hl : law = 0
  · subst hl
    have hd8 := hlen rfl
    have hB1 := (Blk.new w 68 #[Value.int .i64 kind, u32v code, u32v session, u32v number, .int .i64 flags, .slice A data.length c]).below hb1 (by simp)
    clear hb1 hlen hlaw
    have hc1 : ∀ i, w1.cell? ⟨w.heap.size, i, none⟩ = (#[Value.int .i64 kind, u32v code, u32v session, u32v number, .int .i64 flags, .slice A data.length c] : Array Value)[i]? := hB1.cell
    have hr1 := hr.below (hb1'.mono hB)
    have hn1 := hb1'.size
    have hlt1 := hB1.lt
    have hBl : B ≤ w1.heap.size := by omega
    have hkind : (u8c [byteOf kind]).toArray = #[Value.int .u8 (kind % 256)] := by simp [u8c, byteOf_val]
    have hown : (w1.alloc (.cells #[Value.int .u8 (kind % 256)] 5)).ownsRow w1.heap.size 5 1 (.slice (some ⟨w1.heap.size, 0, none⟩) 1 1) 1 (u8c [byteOf kind]) := by
      have := own_full w1 #[Value.int .u8 (kind % 256)] 5 w1.heap.size (Nat.le_refl _) (by simp [maxLen])
      rw [← hkind] at this ⊢
      exact this
    have hbW : Below w.heap.size w (w1.alloc (.cells #[Value.int .u8 (kind % 256)] 5)) := hb1'.alloc hn1 _
    have hsz : w1.heap.size ≤ (w1.alloc (.cells #[Value.int .u8 (kind % 256)] 5)).heap.size := by simp
    replace hB1 := hB1.alloc (.cells #[Value.int .u8 (kind % 256)] 5)
    replace hr1 := hr1.alloc hBl (.cells #[Value.int .u8 (kind % 256)] 5)
    clear hb1' hkind hr
    go_wp2_with fail
    clear hc1
    refine (rword_any code _).mono ?_
    rintro e w1a ⟨v1a, rfl, hw, hb⟩
    obtain ⟨Aw1, cw1, rfl⟩ := own_slice hw
    replace hB1 := hB1.below hb hB1.lt
    replace hr1 := hr1.below (hb.mono (Nat.le_trans hBl hsz))
    replace hbW := hbW.trans (hb.mono hbW.size)
    replace hown := own_below hown hb
    replace hsz := Nat.le_trans hsz hb.size
    have hlt1 := hown.lt
    clear hb
    go_wp2_with (at_builtin; refine wpList_append_any _ rfl (.tmp 15) (.tmp 18) _ rfl w1.heap.size 5 i0 _ 1 1 Tryz.underlying41 hi0 hz0 hz1 hz2 rfl (by omega) (.slice (some ⟨w1.heap.size, 0, none⟩) 1 1) 1 (u8c [byteOf kind]) rfl hown w1a.heap.size Aw1 4 cw1 (u8c (wordOf code)) rfl (Reads.of_own hw) (u8c_one _) (by unfold maxLen; omega) (by omega) hsz ?_; intro v1b w1b hownN hg hat; rw [← u8c_append] at hownN; simp only [Nat.reduceAdd] at hownN; obtain ⟨A1s, c1s, rfl⟩ := own_slice hownN; clear hown; have hown := hownN; clear hownN; have hBn := hB1.grown hg (fun h => by have := (hlt1 _ h).1; omega); clear hB1; have hB1 := hBn; clear hBn; have hc1 := hB1.cell; have hrn := hr1.grown hg (Nat.le_trans hBl hsz) (fun g h => by have := (hlt1 g h).1; omega); clear hr1; have hr1 := hrn; clear hrn; have hbn := hbW.grown hg hbW.size (fun g h => by have := (hlt1 g h).1; omega); clear hbW; have hbW := hbn; clear hbn; have hsn := Nat.le_trans hsz hg.size; clear hsz; have hsz := hsn; clear hsn hg hat)
    clear hc1
    refine (rword_any session _).mono ?_
    rintro e w2a ⟨v2a, rfl, hw, hb⟩
    obtain ⟨Aw2, cw2, rfl⟩ := own_slice hw
    replace hB1 := hB1.below hb hB1.lt
    replace hr1 := hr1.below (hb.mono (Nat.le_trans hBl hsz))
    replace hbW := hbW.trans (hb.mono hbW.size)
    replace hown := own_below hown hb
    replace hsz := Nat.le_trans hsz hb.size
    have hlt2 := hown.lt
    clear hb
    go_wp2_with (at_builtin; refine wpList_append_any _ rfl (.tmp 20) (.tmp 23) _ rfl w1.heap.size 5 i0 _ 1 1 Tryz.underlying41 hi0 hz0 hz1 hz2 rfl (by omega) (.slice A1s 5 c1s) 5 (u8c ([byteOf kind] ++ wordOf code)) rfl hown w2a.heap.size Aw2 4 cw2 (u8c (wordOf session)) rfl (Reads.of_own hw) (u8c_one _) (by unfold maxLen; omega) (by omega) hsz ?_; intro v2b w2b hownN hg hat; rw [← u8c_append] at hownN; simp only [Nat.reduceAdd] at hownN; obtain ⟨A2s, c2s, rfl⟩ := own_slice hownN; clear hown; have hown := hownN; clear hownN; have hBn := hB1.grown hg (fun h => by have := (hlt2 _ h).1; omega); clear hB1; have hB1 := hBn; clear hBn; have hc2 := hB1.cell; have hrn := hr1.grown hg (Nat.le_trans hBl hsz) (fun g h => by have := (hlt2 g h).1; omega); clear hr1; have hr1 := hrn; clear hrn; have hbn := hbW.grown hg hbW.size (fun g h => by have := (hlt2 g h).1; omega); clear hbW; have hbW := hbn; clear hbn; have hsn := Nat.le_trans hsz hg.size; clear hsz; have hsz := hsn; clear hsn hg hat)
    clear hc2
    refine (rword_any number _).mono ?_
    rintro e w3a ⟨v3a, rfl, hw, hb⟩
    obtain ⟨Aw3, cw3, rfl⟩ := own_slice hw
    replace hB1 := hB1.below hb hB1.lt
    replace hr1 := hr1.below (hb.mono (Nat.le_trans hBl hsz))
    replace hbW := hbW.trans (hb.mono hbW.size)
    replace hown := own_below hown hb
    replace hsz := Nat.le_trans hsz hb.size
    have hlt3 := hown.lt
    clear hb
    go_wp2_with (first
      | (at_builtin; refine wpList_append_any _ rfl (.tmp 25) (.tmp 28) _ rfl w1.heap.size 5 i0 _ 1 1 Tryz.underlying41 hi0 hz0 hz1 hz2 rfl (by omega) (.slice A2s 9 c2s) 9 (u8c ([byteOf kind] ++ wordOf code ++ wordOf session)) rfl hown w3a.heap.size Aw3 4 cw3 (u8c (wordOf number)) rfl (Reads.of_own hw) (u8c_one _) (by unfold maxLen; omega) (by omega) hsz ?_; intro v3b w3b hownN hg hat; rw [← u8c_append] at hownN; simp only [Nat.reduceAdd] at hownN; obtain ⟨A3s, c3s, rfl⟩ := own_slice hownN; clear hown; have hown := hownN; clear hownN; have hBn := hB1.grown hg (fun h => by have := (hlt3 _ h).1; omega); clear hB1; have hB1 := hBn; clear hBn; have hc3 := hB1.cell; have hrn := hr1.grown hg (Nat.le_trans hBl hsz) (fun g h => by have := (hlt3 g h).1; omega); clear hr1; have hr1 := hrn; clear hrn; have hbn := hbW.grown hg hbW.size (fun g h => by have := (hlt3 g h).1; omega); clear hbW; have hbW := hbn; clear hbn; have hsn := Nat.le_trans hsz hg.size; clear hsz; have hsz := hsn; clear hsn hg hat)
      | (at_builtin; refine wpList_append_any _ rfl (.tmp 30) (.tmp 38) _ rfl w1.heap.size 5 i0 _ 1 1 Tryz.underlying41 hi0 hz0 hz1 hz2 rfl (by omega) (.slice A3s 13 c3s) 13 (u8c ([byteOf kind] ++ wordOf code ++ wordOf session ++ wordOf number)) rfl (hown.alloc _) (w3b.heap.size + 1) (some ⟨w3b.heap.size, 0, none⟩) 2 2 (u8c [byteOf flags, byteOf data.length]) rfl (by simpa using two_reads (by omega) (Blk.new w3b 5 _)) (u8c_one _) (by unfold maxLen; omega) (by omega) (by simp; omega) ?_; intro v4 w4 hown4 hg4 hat4; have hlt3b := hown.lt; have hB4 := (hB1.alloc _).grown hg4 (fun h => by have := (hlt3b _ h).1; omega); have hc4 := hB4.cell; have hr4 := (hr1.alloc (by omega) _).grown hg4 (by simp; omega) (fun g h => by have := (hlt3b g h).1; omega); have hs4 := hg4.size; have hlt4 := hown4.lt; have hbW4 := (hbW.alloc hbW.size _).grown hg4 (by have := hbW.size; simp; omega) (fun k hk => by have := (hlt3b k hk).1; omega); rw [← u8c_append] at hown4; simp only [Nat.reduceAdd] at hown4; obtain ⟨A4, c4, rfl⟩ := own_slice hown4)
      | (at_builtin; refine wpList_append_any _ rfl (.tmp 40) (.tmp 42) _ rfl w1.heap.size 5 i0 _ 1 1 Tryz.underlying41 hi0 hz0 hz1 hz2 rfl (by omega) (.slice A4 15 c4) 15 _ rfl hown4 B A data.length c (u8c data) rfl hr4 (u8c_one _) (by unfold maxLen; omega) (by omega) (by simp at hs4; omega) ?_; intro v5 w5 hown5 hg5 hat5; have hbW5 := hbW4.grown hg5 (by simp at hs4; omega) (fun k hk => by have := (hlt4 k hk).1; omega); rw [← u8c_append] at hown5; obtain ⟨A5, c5, rfl⟩ := own_slice hown5))
    have hw5 := hbW5.size
    refine (rseal_any A5 _ c5 _ w5.heap.size w5 (Reads.of_own hown5) (Nat.le_refl _) (by omega)).mono ?_
    rintro e w6 ⟨v6, rfl, hown6, hb6⟩
    go_wp2_with fail
    refine bodyPost_ret (v := .tuple #[v6, .int .i64 0]) (by simp [results, Tryz.results60, go_sem]) rfl ⟨_, rfl, ?_, hbW5.trans (hb6.mono hw5)⟩
    rw [Henc.out, if_pos trivial]
    have hlen : (sealM ([byteOf kind] ++ wordOf code ++ wordOf session ++ wordOf number ++ [byteOf flags, byteOf data.length] ++ data)).length = 15 + data.length + 4 := by
      simp [sealM, wordOf]; omega
    rw [hlen]
    exact own_base hown6 hw5
  · have g1 : (law != 0) = true := by simpa using hl
    have hnil : enc = [] := by rw [Henc.out, if_neg hl]
    subst hnil
    go_wp2_with fail
    refine bodyPost_ret (v := .tuple #[.slice none 0 0, .int .i64 law]) (by simp [results, Tryz.results60, go_sem]) rfl ⟨_, rfl, World.ownsRow_nil _ _ _ _, hb1'⟩
end Go.Proofs.YtbkkfkbgcklkgaaGreat
/- sync.Once and sync.Mutex, one goroutine (after the guide's worked text on sync.Once). -/
namespace Go.Proofs.YtbkkfkbgcklkgaaGreat
open Go.RowKit
set_option maxHeartbeats 4000000
set_option maxRecDepth 100000

theorem raceDisable (w : World) : (callFunc 203 #[]).run Tryz.prog w = .ok (.value (.tuple #[])) w := run_call_mark0 Tryz.func203 (by kernel_rfl) (by kernel_rfl) (by kernel_rfl) .disable (by kernel_rfl) w
theorem raceEnable (w : World) : (callFunc 205 #[]).run Tryz.prog w = .ok (.value (.tuple #[])) w := run_call_mark0 Tryz.func205 (by kernel_rfl) (by kernel_rfl) (by kernel_rfl) .enable (by kernel_rfl) w
theorem raceAcquire (a : Addr) (w : World) : (callFunc 206 #[.pointer (some a)]).run Tryz.prog w = .ok (.value (.tuple #[])) w := run_call_marked Tryz.func206 (by kernel_rfl) (by kernel_rfl) (by kernel_rfl) .acquire (by kernel_rfl) a w
theorem raceReleaseMerge (a : Addr) (w : World) : (callFunc 208 #[.pointer (some a)]).run Tryz.prog w = .ok (.value (.tuple #[])) w := run_call_marked Tryz.func208 (by kernel_rfl) (by kernel_rfl) (by kernel_rfl) .releaseMerge (by kernel_rfl) a w

theorem boolStore_deferred (a : Addr) (x : Value) (u : FrameMode) (w : World) (hc : w.cell? a = some x) (hz : w.frozen? a = false) :
    CallsD Tryz.prog 113 #[.pointer (some a), .bool true] u w fun e u' w' => u' = u ∧ (e = .returned (.tuple #[]) ∧ w' = w.drew.setCell a (.int .u32 1)) := by
  have hc' : w.drew.cell? a = some x := by go_simp
  have hz' : w.drew.frozen? a = false := by go_simp
  have hst := run_call_store (P := Tryz.prog) Tryz.func151 (by kernel_rfl) (by kernel_rfl) (by kernel_rfl) (by kernel_rfl) (k := .u32) (y := 1) hc' hz'
  go_enter_d Tryz.func113, Tryz.ntmps113
  go_wp2
  go_region_calls
  all_goals (go_end0; exact ⟨rfl, rfl⟩)
theorem unlock_deferred (a : Addr) (u : FrameMode) (w : World) (hc : w.cell? a = some (.int .i32 1)) (hz : w.frozen? a = false) :
    CallsD Tryz.prog 199 #[.pointer (some a)] u w fun e u' w' => u' = u ∧ (e = .returned (.tuple #[]) ∧ w' = w.setCell a (.int .i32 0)) := by
  have hd := raceDisable
  have he := raceEnable
  have hr := raceReleaseMerge
  have hadd := run_call_add (P := Tryz.prog) Tryz.func153 (by kernel_rfl) (by kernel_rfl) (by kernel_rfl) .i32 (by kernel_rfl) (y := -1) (s := 0) hc hz (by simp [go_sem]; rfl)
  have hcv := run_convert_to_unsafe (P := Tryz.prog) (src := 282) (dst := 212) Tryz.underlying282 Tryz.underlying212 (by kernel_rfl) hc
  go_enter_d Tryz.func199, Tryz.ntmps199
  go_wp2
  go_end0
  go_wp2
  go_end0
  exact ⟨rfl, rfl⟩
theorem lock_free (a : Addr) (w : World) (hc : w.cell? a = some (.int .i32 0)) (hz : w.frozen? a = false) :
    Calls Tryz.prog 198 #[.pointer (some a)] w fun e w' => e = .returned (.tuple #[]) ∧ w' = w.setCell a (.int .i32 1) := by
  have hd := raceDisable
  have he := raceEnable
  have ha := raceAcquire
  have hcas := run_call_cas_hit (P := Tryz.prog) Tryz.func204 (by kernel_rfl) (by kernel_rfl) (by kernel_rfl) .i32 (by kernel_rfl) (y := 1) hc hz
  have hc' : (w.setCell a (.int .i32 1)).cell? a = some (.int .i32 1) := World.cell?_setCell_same w a _ hc
  have hcv := run_convert_to_unsafe (P := Tryz.prog) (src := 282) (dst := 212) Tryz.underlying282 Tryz.underlying212 (by kernel_rfl) hc'
  go_enter Tryz.func198, Tryz.ntmps198
  go_wp2
  first | go_end0 | (simp only [Exit.inBlock, Exit.then]; refine bodyPost_ret (results_none rfl _ _ _) rfl ?_) | refine bodyPost_ret (results_none rfl _ _ _) rfl ?_
  go_wp2
  go_end0
  exact ⟨rfl, rfl⟩
/-- Do, done already: the function is not called. -/
theorem onceDo_done (a : Addr) (fv : Value) (w : World) (h0 : w.cell? a = some (.int .u32 1)) :
    Calls Tryz.prog 175 #[.pointer (some a), fv] w fun e w' => e = .returned (.tuple #[]) ∧ w' = w := by
  have hl := run_call_load (P := Tryz.prog) Tryz.func178 (by kernel_rfl) (by kernel_rfl) (by kernel_rfl) .u32 (by kernel_rfl) h0
  have hnot : ∀ (x : Bool) (w : World), (Op.unary .not (.bool x)).run Tryz.prog w = .ok (.bool (!x)) w := fun _ _ => rfl
  go_enter Tryz.func175, Tryz.ntmps175
  go_wp2
  go_end0
  exact ⟨rfl, rfl⟩
end Go.Proofs.YtbkkfkbgcklkgaaGreat
/- gate's functions by their contracts. -/
namespace Go.Proofs.YtbkkfkbgcklkgaaGreat
open Go.RowKit
set_option maxHeartbeats 4000000
set_option maxRecDepth 100000

theorem gateClosure_any (pc pg pf gb : Nat) (code : Int) (x0 x1 x2 : Value) (t1 t2 t3 t4 : TypeId) (w : World) (hc : Blk w pc t1 #[.int .i64 code]) (hg : Blk w pg t2 #[.pointer (some ⟨gb, 0, none⟩)]) (hf : Blk w pf t3 #[.bool false])
    (hb : Blk w gb t4 #[x0, x1, x2]) (n1 : ¬ gb = pf) :
    Calls Tryz.prog 176 #[.pointer (some ⟨pc, 0, none⟩), .pointer (some ⟨pg, 0, none⟩), .pointer (some ⟨pf, 0, none⟩)] w fun e w' => e = .returned (.tuple #[]) ∧ w' = (w.setCell ⟨gb, 1, none⟩ (.int .i64 code)).setCell ⟨pf, 0, none⟩ (.bool true) := by
  have hcc := hc.cell
  have hgc := hg.cell
  have hfc := hf.cell
  have hff := hf.frozen
  have hbc := hb.cell
  have hbf := hb.frozen
  have n2 : ¬ pf = gb := fun h => n1 h.symm
  go_enter Tryz.func176, Tryz.ntmps176
  go_wp2_with fail
  go_end0
  exact ⟨rfl, rfl⟩
theorem onceSlow_any (ob pc pg pf gb : Nat) (code : Int) (s x0 x1 x2 : Value) (t1 t2 t3 t4 t5 : TypeId) (w : World) (ho : Blk w ob t5 #[.int .u32 0, .int .i32 0, s]) (hc : Blk w pc t1 #[.int .i64 code]) (hg : Blk w pg t2 #[.pointer (some ⟨gb, 0, none⟩)]) (hf : Blk w pf t3 #[.bool false])
    (hb : Blk w gb t4 #[x0, x1, x2]) (n1 : ¬ gb = pf) (n2 : ¬ ob = gb) (n3 : ¬ ob = pf) (n4 : ¬ ob = pc) (n5 : ¬ ob = pg) :
    Calls Tryz.prog 190 #[.pointer (some ⟨ob, 0, none⟩), .func (.func 176) #[] #[.pointer (some ⟨pc, 0, none⟩), .pointer (some ⟨pg, 0, none⟩), .pointer (some ⟨pf, 0, none⟩)]] w fun e w' => e = .returned (.tuple #[]) ∧
      w' = (((((w.setCell ⟨ob, 1, none⟩ (.int .i32 1)).setCell ⟨gb, 1, none⟩ (.int .i64 code)).setCell ⟨pf, 0, none⟩ (.bool true)).drew.setCell ⟨ob, 0, none⟩ (.int .u32 1)).setCell ⟨ob, 1, none⟩ (.int .i32 0)) := by
  have hol : Blk (w.setCell ⟨ob, 1, none⟩ (.int .i32 1)) ob t5 #[.int .u32 0, .int .i32 1, s] := by simpa using ho.set_ 1 (.int .i32 1)
  have h0 : (w.setCell ⟨ob, 1, none⟩ (.int .i32 1)).cell? ⟨ob, 0, none⟩ = some (.int .u32 0) := (hol.cell 0).trans rfl
  have hl := run_call_load (P := Tryz.prog) Tryz.func178 (by kernel_rfl) (by kernel_rfl) (by kernel_rfl) .u32 (by kernel_rfl) h0
  have hnot : ∀ (x : Bool) (w : World), (Op.unary .not (.bool x)).run Tryz.prog w = .ok (.bool (!x)) w := fun _ _ => rfl
  have hc1 := hc.far (p := ⟨ob, 1, none⟩) (fun h => n4 h.symm) (.int .i32 1)
  have hg1 := hg.far (p := ⟨ob, 1, none⟩) (fun h => n5 h.symm) (.int .i32 1)
  have hf1 := hf.far (p := ⟨ob, 1, none⟩) (fun h => n3 h.symm) (.int .i32 1)
  have hb1 := hb.far (p := ⟨ob, 1, none⟩) (fun h => n2 h.symm) (.int .i32 1)
  have hcl := gateClosure_any pc pg pf gb code x0 x1 x2 t1 t2 t3 t4 _ hc1 hg1 hf1 hb1 n1
  have ho2 := (hol.far (p := ⟨gb, 1, none⟩) n2 (.int .i64 code)).far (p := ⟨pf, 0, none⟩) n3 (.bool true)
  go_enter_defers Tryz.func190, Tryz.ntmps190
  go_wp2_with (go_at_call 198; refine (lock_free ⟨ob, 1, none⟩ _ ((ho.cell 1).trans rfl) (ho.frozen 1)).mono ?_; rintro e w' ⟨rfl, rfl⟩)
  go_wp2_with (go_at_call 156; go_in)
  refine hcl.mono ?_
  rintro e w' ⟨rfl, rfl⟩
  go_wp2_with fail
  refine leaves_cons (f := 113) (args := #[.pointer (some ⟨ob, 0, none⟩), .bool true]) (by simp) (by simp [go_sem]) ?_
  refine (boolStore_deferred ⟨ob, 0, none⟩ (.int .u32 0) .returning _ ((ho2.cell 0).trans rfl) (ho2.frozen 0)).mono ?_
  rintro e u' w'' ⟨rfl, rfl, rfl⟩
  have ho3 : Blk ((((w.setCell ⟨ob, 1, none⟩ (.int .i32 1)).setCell ⟨gb, 1, none⟩ (.int .i64 code)).setCell ⟨pf, 0, none⟩ (.bool true)).drew.setCell ⟨ob, 0, none⟩ (.int .u32 1)) ob t5 #[.int .u32 1, .int .i32 1, s] := by simpa using ho2.drew.set_ 0 (.int .u32 1)
  refine leaves_cons (f := 199) (args := #[.pointer (some ⟨ob, 1, none⟩)]) (by simp [settle]) (by simp [go_sem]) ?_
  refine (unlock_deferred ⟨ob, 1, none⟩ _ _ ((ho3.cell 1).trans rfl) (ho3.frozen 1)).mono ?_
  rintro e u' w'' ⟨rfl, rfl, rfl⟩
  simp [Leaves, settle, results, Tryz.results190]
theorem onceDo_first (ob pc pg pf gb : Nat) (code : Int) (s x0 x1 x2 : Value) (t1 t2 t3 t4 t5 : TypeId) (w : World) (ho : Blk w ob t5 #[.int .u32 0, .int .i32 0, s]) (hc : Blk w pc t1 #[.int .i64 code]) (hg : Blk w pg t2 #[.pointer (some ⟨gb, 0, none⟩)]) (hf : Blk w pf t3 #[.bool false])
    (hb : Blk w gb t4 #[x0, x1, x2]) (n1 : ¬ gb = pf) (n2 : ¬ ob = gb) (n3 : ¬ ob = pf) (n4 : ¬ ob = pc) (n5 : ¬ ob = pg) :
    Calls Tryz.prog 175 #[.pointer (some ⟨ob, 0, none⟩), .func (.func 176) #[] #[.pointer (some ⟨pc, 0, none⟩), .pointer (some ⟨pg, 0, none⟩), .pointer (some ⟨pf, 0, none⟩)]] w fun e w' => e = .returned (.tuple #[]) ∧
      w' = (((((w.setCell ⟨ob, 1, none⟩ (.int .i32 1)).setCell ⟨gb, 1, none⟩ (.int .i64 code)).setCell ⟨pf, 0, none⟩ (.bool true)).drew.setCell ⟨ob, 0, none⟩ (.int .u32 1)).setCell ⟨ob, 1, none⟩ (.int .i32 0)) := by
  have h0 : w.cell? ⟨ob, 0, none⟩ = some (.int .u32 0) := (ho.cell 0).trans rfl
  have hl := run_call_load (P := Tryz.prog) Tryz.func178 (by kernel_rfl) (by kernel_rfl) (by kernel_rfl) .u32 (by kernel_rfl) h0
  have hnot : ∀ (x : Bool) (w : World), (Op.unary .not (.bool x)).run Tryz.prog w = .ok (.bool (!x)) w := fun _ _ => rfl
  go_enter Tryz.func175, Tryz.ntmps175
  go_wp2_with (first | (go_at_call 190; refine (onceSlow_any ob pc pg pf gb code s x0 x1 x2 t1 t2 t3 t4 t5 _ ho hc hg hf hb n1 n2 n3 n4 n5).mono ?_; rintro e w' ⟨rfl, rfl⟩) | (go_at_call 156; go_in))
  go_end0
  exact ⟨rfl, rfl⟩

/-- A gate and its Once: blocks b and o; what is latched. -/
structure GateIs (w : World) (b o : Nat) (code : Int) : Prop where
  gate : ∃ n, Blk w b 231 #[.pointer (some ⟨o, 0, none⟩), .int .i64 code, .int .i64 n]
  once : ∃ s, Blk w o 246 #[.int .u32 (if code = 0 then 0 else 1), .int .i32 0, s]
theorem GateIs.ne {w : World} {b o : Nat} {code : Int} (h : GateIs w b o code) : b ≠ o := by
  obtain ⟨⟨n, h1⟩, ⟨s, h2⟩⟩ := h
  exact h1.ne_ h2 (by decide)
theorem GateIs.keep {w w' : World} {b o : Nat} {code : Int} {S : Nat → Prop} (h : GateIs w b o code) (hk : Keep S w w') (hb : ¬ S b) (ho : ¬ S o) : GateIs w' b o code := by
  obtain ⟨⟨n, h1⟩, ⟨s, h2⟩⟩ := h
  exact ⟨⟨n, h1.keep hk hb⟩, ⟨s, h2.keep hk ho⟩⟩
theorem gateNew_any (w : World) : Calls Tryz.prog 129 #[] w fun e w' => e = .returned (.pointer (some ⟨w.heap.size + 1, 0, none⟩)) ∧ GateIs w' (w.heap.size + 1) w.heap.size 0 ∧ Below w.heap.size w w' ∧ w'.heap.size = w.heap.size + 2 := by
  go_enter Tryz.func129, Tryz.ntmps129
  go_wp2_with fail
  go_ret
  refine ⟨rfl, ⟨⟨0, ?_⟩, ⟨.int .u32 0, ?_⟩⟩, ((Below.refl _ _).alloc (Nat.le_refl _) _).alloc (by simp) _, by simp⟩
  · exact Blk.new' _ _ _ (by simp)
  · exact (Blk.new w _ _).alloc _
theorem gateCode_any (b o : Nat) (code : Int) (w : World) (h : GateIs w b o code) : Calls Tryz.prog 110 #[.pointer (some ⟨b, 0, none⟩)] w fun e w' => e = .returned (.int .i64 code) ∧ w' = w := by
  obtain ⟨⟨n, h1⟩, _⟩ := h
  have hc := h1.cell
  go_enter Tryz.func110, Tryz.ntmps110
  go_wp2_with fail
  go_ret
  exact ⟨rfl, rfl⟩
end Go.Proofs.YtbkkfkbgcklkgaaGreat
