/- The base of the laws of the host, part 7: contracts and plain lemmas, no statement. -/
import Derived.Test.YtfoldlbnkfnenaaGreatBase6
import Derived.Deep.OwnRows
import Derived.Deep.RegionHeld3
/- Bytes with a burst turned in them (parapethand.Burst). -/
namespace Go.Proofs.YtfoldlbnkfnenaaGreat
open Go.RowKit
set_option maxHeartbeats 10000000
set_option maxRecDepth 100000

theorem own_set1 {w : World} {base : Nat} {e : TypeId} {n c g : Nat} {xs : List Value} (h : w.ownsRow base e 1 (.slice (some ⟨g, 0, none⟩) n c) n xs) (k : Nat) (u : Value) :
    (w.setCell ⟨g, k, none⟩ u).ownsRow base e 1 (.slice (some ⟨g, 0, none⟩) n c) n (xs.set k u) := by
  obtain ⟨hl, h⟩ := h
  rcases h with ⟨h, _⟩ | ⟨g', cap, cur, h, hb, hg, hn, hm, hs, hx⟩
  · cases h
  · injection h with h1 h2 h3
    injection h1 with h1
    injection h1 with h1
    subst h1 h3
    refine ⟨by simpa using hl, .inr ⟨g, c, cur.setIfInBounds k u, rfl, hb, Blk.set_ hg k u, hn, hm, by simpa using hs, ?_⟩⟩
    rw [Array.toList_setIfInBounds, List.take_set, hx]
theorem xor8 (x y : Int) : bits .xor .u8 x y = ((BitVec.ofInt 8 x ^^^ BitVec.ofInt 8 y).toNat : Int) := by
  unfold bits
  have h := (BitVec.ofInt 8 x ^^^ BitVec.ofInt 8 y).isLt
  exact IntWalk.u8_in ((BitVec.ofInt 8 x ^^^ BitVec.ofInt 8 y).toNat : Int) ⟨by omega, by omega⟩
theorem xor_byte (b v : UInt8) : bits .xor .u8 (b.toNat : Int) (v.toNat : Int) = ((b ^^^ v).toNat : Int) := by
  rw [xor8]
  have e : ∀ c : UInt8, BitVec.ofInt 8 (c.toNat : Int) = c.toBitVec := fun c => by apply BitVec.eq_of_toNat_eq; simp
  rw [e, e]
  rfl
theorem bit_at : ∀ r < 8, ((128 : UInt8) >>> UInt8.ofNat r).toNat = 128 / 2 ^ r := by decide
theorem and1_32 (x : Int) (h0 : 0 ≤ x) (h1 : x < 4294967296) : bits .and .u32 x 1 = x % 2 := bits_mask .u32 32 (by decide) (fun n a b => IntWalk.u32_in n ⟨a, by simp at b; omega⟩) 1 (by decide) x h0 h1
theorem word_bit {word : Int} (h0 : 0 ≤ word) (h1 : word < 4294967296) (k : Nat) : (bits .and .u32 (word / 2 ^ k) 1 != 0) = wbit word k := by
  have a : 0 ≤ word / 2 ^ k := Int.ediv_nonneg h0 (Int.le_of_lt (Int.pow_pos (by decide)))
  have b : word / 2 ^ k ≤ word := Int.ediv_le_self _ h0
  rw [and1_32 _ a (by omega)]
  rfl
theorem turnTo_length (word : Int) (size frm : Nat) (b : List UInt8) : ∀ k, (turnTo word size frm b k).length = b.length
  | 0 => rfl
  | k + 1 => by
    unfold turnTo
    split
    · unfold turnBit
      rw [List.length_set, turnTo_length word size frm b k]
    · exact turnTo_length word size frm b k
theorem sizeTo_le (word : Int) : ∀ k, sizeTo word k ≤ k
  | 0 => Nat.le_refl _
  | k + 1 => by
    unfold sizeTo
    split
    · exact Nat.le_refl _
    · exact Nat.le_succ_of_le (sizeTo_le word k)
theorem rem_u64 {at_ : Int} {R fr : Nat} (hR0 : 1 ≤ R) (hR : R < 17179869184) (h : fr = (at_ % 18446744073709551616).toNat % R) : wrap64 ((IntKind.u64.wrap at_).tmod (R : Int)) = (fr : Int) := by
  have e : IntKind.u64.wrap at_ = (((at_ % 18446744073709551616).toNat : Nat) : Int) := by
    rw [IntKind.wrap_u64]
    omega
  have hf : fr < R := by rw [h]; exact Nat.mod_lt _ hR0
  rw [e, Int.tmod_eq_emod_of_nonneg (Int.natCast_nonneg _), ← Int.natCast_emod, ← h]
  exact IntWalk.wrap64_in (fr : Int) ⟨by omega, by omega⟩
theorem turn_step {word : Int} {sz fr k : Nat} {l : List UInt8} (h : wbit word (sz - 1 - k) = true) (j : Nat) (hj : j = fr + k) : turnTo word sz fr l (k + 1) = (turnTo word sz fr l k).set (j / 8) (((turnTo word sz fr l k).getD (j / 8) 0) ^^^ (128 >>> UInt8.ofNat (j % 8))) := by
  subst hj
  show (if _ then _ else _) = _
  rw [h, if_pos rfl]
  rfl
theorem turn_skip {word : Int} {sz fr k : Nat} {l : List UInt8} (h : wbit word (sz - 1 - k) = false) : turnTo word sz fr l (k + 1) = turnTo word sz fr l k := by
  show (if _ then _ else _) = _
  rw [h, if_neg (by decide)]
theorem burst_any (A : Option Addr) (n c B : Nat) (l : List UInt8) (at_ word : Int) (w : World) (hr : Reads w B 1 A n (u8c l)) (hB : B ≤ w.heap.size) (hn : n < 1073741824) (hw0 : 0 ≤ word ∧ word < 4294967296) :
    Calls Tryz.prog 28 #[.slice A n c, .int .i64 at_, .int .u32 word] w fun e w' => ∃ v, e = .returned (.tuple #[v, .bool (burstM l at_ word).isSome]) ∧ (burstM l at_ word = none → v = .slice none 0 0) ∧ (∀ b, burstM l at_ word = some b → w'.ownsRow w.heap.size 5 1 v b.length (u8c b)) ∧ Below w.heap.size w w' := by
  have hl : l.length = n := by have := hr.1; simpa [u8c] using this
  have Hl := Lib.hid hl
  obtain ⟨r, Hr⟩ : ∃ r, Hid (r = burstM l at_ word) := ⟨_, Lib.hid rfl⟩
  rw [← Hr.out]
  clear hl
  have hwb := fun k => word_bit hw0.1 hw0.2 k
  have Hwb := Lib.hid hwb
  clear hwb
  go_enter Tryz.func28, Tryz.ntmps28
  go_wp2_with fail
  go_loopg [8, 9] 32 (fun q v8 v9 wr => ∃ (k : Nat), k + q = 32 ∧ v9 = .int .i64 k ∧ v8 = .int .i64 (sizeTo word k : Nat) ∧ wr = w)
  case atStart => exact ⟨0, rfl, rfl, rfl, rfl⟩
  case round =>
    obtain ⟨k, hq, rfl, rfl, rfl⟩ := hrel
    have hg := Hwb.out k
    have Hs : Hid (sizeTo word (k + 1) = if wbit word k then k + 1 else sizeTo word k) := Lib.hid rfl
    by_cases hk : k < 32
    · cases hbk : wbit word k with
      | true =>
        rw [hbk] at hg Hs
        go_wp2_with fail
        go_roundg (32 - (k + 1))
        case measure => omega
        case rel => exact ⟨k + 1, by omega, by go_num, by rw [show sizeTo word (k + 1) = k + 1 by rw [Hs.out]; rfl]; go_num, rfl⟩
      | false =>
        rw [hbk] at hg Hs
        go_wp2_with fail
        go_roundg (32 - (k + 1))
        case measure => omega
        case rel => exact ⟨k + 1, by omega, by go_num, by rw [show sizeTo word (k + 1) = sizeTo word k by rw [Hs.out]; rfl], rfl⟩
    · obtain rfl : k = 32 := by omega
      clear hg Hs
      obtain ⟨W0, rfl⟩ : ∃ W : World, W = wr := ⟨_, rfl⟩
      have hsz := sizeTo_le word 32
      have Hb : Hid (burstM l at_ word = if sizeTo word 32 = 0 ∨ 8 * l.length < sizeTo word 32 then none else some (turnTo word (sizeTo word 32) ((at_ % 18446744073709551616).toNat % (8 * l.length - sizeTo word 32 + 1)) l (sizeTo word 32))) := Lib.hid rfl
      generalize sizeTo word 32 = sz at *
      have hln := Hl.out
      by_cases z1 : sz = 0
      · have hrn : r = none := by rw [Hr.out, Hb.out, if_pos (.inl z1)]
        subst hrn
        have gz : ((sz : Int) == 0) = true := by simpa using z1
        clear z1 hln
        go_wp2_with fail
        refine bodyPost_ret (v := .tuple #[.slice none 0 0, .bool false]) (by simp [results, Tryz.results28, go_sem]) rfl ⟨_, rfl, rfl, Below.refl _ _⟩
      have gz : ((sz : Int) == 0) = false := by simpa using z1
      by_cases z2 : 8 * n < sz
      · have hrn : r = none := by rw [Hr.out, Hb.out, if_pos (.inr (by omega))]
        subst hrn
        clear z1 hln
        go_wp2_with fail
        refine bodyPost_ret (v := .tuple #[.slice none 0 0, .bool false]) (by simp [results, Tryz.results28, go_sem]) rfl ⟨_, rfl, rfl, Below.refl _ _⟩
      obtain ⟨R, hR⟩ : ∃ R : Nat, 8 * n - sz + 1 = R := ⟨_, rfl⟩
      have hR1 : (8 : Int) * n - sz + 1 = (R : Int) := by omega
      have hR0 : 1 ≤ R := by omega
      obtain ⟨fr, Hfr⟩ : ∃ fr, Hid (fr = (at_ % 18446744073709551616).toNat % R) := ⟨_, Lib.hid rfl⟩
      have hfr : fr < R := by rw [Hfr.out]; exact Nat.mod_lt _ hR0
      have Hrs : Hid (r = some (turnTo word sz fr l sz)) := Lib.hid (by rw [Hr.out, Hb.out, if_neg (by omega), hln, hR, Hfr.out])
      have HR := Lib.hid hR
      clear hR hln Hb Hr
      have hrem := rem_u64 hR0 (by omega) Hfr.out
      obtain ⟨i0, hi0, hz0, hz1, hz2⟩ := info_parts byte_info
      go_wp2_with (at_builtin; refine wpList_append_any _ rfl (.tmp 44) (.tmp 45) _ rfl W0.heap.size 5 i0 _ 1 1 Tryz.underlying22 hi0 hz0 hz1 hz2 rfl (by omega) (.slice (some ⟨W0.heap.size, 0, none⟩) 0 0) 0 [] rfl (World.ownsRow_made W0 #[] 0 (Nat.le_refl _) (by unfold maxLen; omega) rfl) B A n c (u8c l) rfl (hr.alloc hB _) (u8c_one l) (by unfold maxLen; omega) (by omega) (by simp) ?_; intro v1 w1 hown1 hg1 hat1; rw [Nat.zero_add, List.nil_append] at hown1; obtain ⟨A1, c1, rfl⟩ := own_slice hown1)
      have hb1 := ((Below.refl W0.heap.size W0).alloc (Nat.le_refl _) (.cells #[] 5)).grown hg1 (by simp) (fun k hk => by simp [Value.ownBlock] at hk; omega)
      obtain ⟨g, rfl⟩ := own_some hown1 (by omega)
      have hgl := (hown1.lt g rfl)
      clear hg1 hat1 hrem
      have HrsF := Hrs
      clear Hrs
      go_wp2_with fail
      go_loopg [13, 14] sz (fun q v13 _v14 wl => ∃ (k : Nat), k + q = sz ∧ v13 = .int .i64 k ∧ wl.ownsRow W0.heap.size 5 1 (.slice (some ⟨g, 0, none⟩) n c1) n (u8c (turnTo word sz fr l k)) ∧ Below W0.heap.size W0 wl)
      case atStart => exact ⟨0, by omega, rfl, hown1, hb1⟩
      case round =>
        obtain ⟨k, hq2, e13, hown2, hb2⟩ := hrel
        subst e13
        by_cases hks : k < sz
        · have hg := Hwb.out (sz - 1 - k)
          have hsh : (sz : Int) - 1 - (k : Int) = ((sz - 1 - k : Nat) : Int) := by omega
          have HR1 := HR.out
          obtain ⟨j, hj⟩ : ∃ j : Nat, j = fr + k := ⟨_, rfl⟩
          have hj1 : (fr : Int) + (k : Int) = (j : Int) := by omega
          have hj8 : j / 8 < n := by omega
          have Hj := Lib.hid hj
          have Hj8 := Lib.hid hj8
          have Hhg := Lib.hid hg
          clear hg hj hj8 HR1
          cases hbk : wbit word (sz - 1 - k) with
          | true =>
            have hts := turn_step (fr := fr) (l := l) hbk j Hj.out
            have Hts := Lib.hid hts
            rw [hbk] at Hhg
            have hg := Hhg.out
            have hcell : wr.cell? ⟨g, j / 8, none⟩ = some (.int .u8 (((turnTo word sz fr l k).getD (j / 8) 0).toNat : Int)) := by have h := (Reads.of_own hown2).byte (j / 8) Hj8.out; have e : (⟨g, 0, none⟩ : Addr).add (j / 8) = ⟨g, j / 8, none⟩ := (by by_cases h : j / 8 = 0 <;> simp [Addr.add, h]); rw [e] at h; exact h
            have hfz := (own_at (k := j / 8) hown2).1
            have hj1' : j = fr + k := Hj.out
            have hjlt : j < 8 * n := by have := HR.out; omega
            have hdiv : (j : Int).tdiv 8 = ((j / 8 : Nat) : Int) := by rw [Int.tdiv_eq_ediv_of_nonneg (Int.natCast_nonneg _)]; rfl
            have hmod : (j : Int).tmod 8 = ((j % 8 : Nat) : Int) := by rw [Int.tmod_eq_emod_of_nonneg (Int.natCast_nonneg _)]; rfl
            have hxb := xor_byte ((turnTo word sz fr l k).getD (j / 8) 0) ((128 : UInt8) >>> UInt8.ofNat (j % 8))
            rw [bit_at (j % 8) (Nat.mod_lt _ (by decide)), show ((128 / 2 ^ (j % 8) : Nat) : Int) = 128 / 2 ^ (j % 8) by simp] at hxb
            have hb3 : Below W0.heap.size W0 (wr.setCell ⟨g, j / 8, none⟩ (.int .u8 ((((turnTo word sz fr l k).getD (j / 8) 0) ^^^ ((128 : UInt8) >>> UInt8.ofNat (j % 8))).toNat : Int))) := hb2.setCell hgl.1 _
            have hown3 := own_set1 hown2 (j / 8) (.int .u8 ((((turnTo word sz fr l k).getD (j / 8) 0) ^^^ ((128 : UInt8) >>> UInt8.ofNat (j % 8))).toNat : Int))
            have hset : (u8c (turnTo word sz fr l k)).set (j / 8) (.int .u8 ((((turnTo word sz fr l k).getD (j / 8) 0) ^^^ ((128 : UInt8) >>> UInt8.ofNat (j % 8))).toNat : Int)) = u8c (turnTo word sz fr l (k + 1)) := by rw [Hts.out]; simp [u8c, List.map_set]
            rw [hset] at hown3
            have Hown3 := Lib.hid hown3
            have Hb3 := Lib.hid hb3
            generalize (turnTo word sz fr l k).getD (j / 8) 0 = x at *
            generalize (128 : UInt8) >>> UInt8.ofNat (j % 8) = y at *
            have hjn : ((j / 8 : Nat) : Int) < (n : Int) := by have := Hj8.out; omega
            have hj0 : (0 : Int) ≤ ((j / 8 : Nat) : Int) := Int.natCast_nonneg _
            clear hts hbk hown3 hb3 hset Hts hj1'
            have hmn : min (j % 8) 8 = j % 8 := Nat.min_eq_left (by have := Nat.mod_lt j (show 0 < 8 by decide); omega)
            have Hmn := Lib.hid hmn
            have Hxb := Lib.hid hxb
            clear hmn hxb
            generalize j / 8 = j8 at *
            generalize j % 8 = jr at *
            go_wp2_with fail
            go_region
            rw [Hmn.out, Hxb.out]
            go_wp2_with fail
            go_roundg (sz - (k + 1))
            case measure => omega
            case rel => exact ⟨k + 1, by omega, by go_num, Hown3.out, Hb3.out.drew⟩
          | false =>
            have hts := turn_skip (fr := fr) (l := l) hbk
            have Hts := Lib.hid hts
            rw [hbk] at Hhg
            have hg := Hhg.out
            clear hts hbk
            go_wp2_with fail
            go_roundg (sz - (k + 1))
            case measure => omega
            case rel => exact ⟨k + 1, by omega, by go_num, by rw [Hts.out]; exact hown2, hb2⟩
        · obtain rfl : k = sz := by omega
          have hrs := HrsF.out
          subst hrs
          go_wp2_with fail
          refine bodyPost_ret (v := .tuple #[.slice (some ⟨g, 0, none⟩) n c1, .bool true]) (by simp [results, Tryz.results28, go_sem]) rfl ⟨_, rfl, ?_, hb2⟩
          rw [turnTo_length, Hl.out]
          exact hown2
end Go.Proofs.YtfoldlbnkfnenaaGreat
/- The reference's dog and valve (parapetref10, parapetref11): structs inside a block. -/
namespace Go.Proofs.YtfoldlbnkfnenaaGreat
open Go.RowKit
set_option maxHeartbeats 4000000
set_option maxRecDepth 100000

/-- A stretch of a block's cells. -/
def seg (pre mid post : List Value) : Array Value := (pre ++ mid ++ post).toArray
theorem seg_get (pre mid post : List Value) (i : Nat) (hi : i < mid.length) : (seg pre mid post)[pre.length + i]? = mid[i]? := by
  unfold seg
  simp [List.getElem?_append, hi]
theorem seg_set (pre mid post : List Value) (i : Nat) (x : Value) (hi : i < mid.length) : (seg pre mid post).setIfInBounds (pre.length + i) x = seg pre (mid.set i x) post := by
  unfold seg
  rw [List.setIfInBounds_toArray, List.append_assoc, List.set_append_right _ _ (by omega), Nat.add_sub_cancel_left, List.set_append_left _ _ hi, List.append_assoc]
section
variable {w : World} {b : Nat} {t : TypeId} {pre mid post : List Value}
theorem Blk.seg_cell (h : Blk w b t (seg pre mid post)) {o : Nat} (ho : pre.length = o) (i : Nat) (hi : i < mid.length) : w.cell? ⟨b, o + i, none⟩ = mid[i]? := by
  subst ho
  rw [h.cell, seg_get pre mid post i hi]
theorem Blk.seg_set (h : Blk w b t (seg pre mid post)) {o : Nat} (ho : pre.length = o) (i : Nat) (hi : i < mid.length) (x : Value) : Blk (w.setCell ⟨b, o + i, none⟩ x) b t (seg pre (mid.set i x) post) := by
  subst ho
  have := h.set_ (pre.length + i) x
  rwa [Go.Proofs.YtfoldlbnkfnenaaGreat.seg_set pre mid post i x hi] at this
end
/-- The dog's cells. -/
def rdogCs (limit since : Int) : List Value := [.int .i64 limit, .int .i64 since]
theorem rdogTicks_any (b o : Nat) (t : TypeId) (pre post : List Value) (limit since n : Int) (w : World) (hb : Blk w b t (seg pre (rdogCs limit since) post)) (ho : pre.length = o) (hs : 0 ≤ since) (hl : since ≤ limit) (hl2 : limit ≤ 1048576) (hn : 0 ≤ n) :
    Calls Tryz.prog 100 #[.pointer (some ⟨b, o, none⟩), .int .i64 n] w fun e w' => e = .returned (.bool (ticksM limit since n).2) ∧ Blk w' b t (seg pre (rdogCs limit (ticksM limit since n).1) post) ∧ Keep (fun x => x = b) w w' ∧ w'.heap.size = w.heap.size := by
  have c0 := hb.seg_cell ho 0 (by simp [rdogCs])
  have c1 := hb.seg_cell ho 1 (by simp [rdogCs])
  have hf := hb.frozen
  have hw1 : IntKind.i64.wrap (limit - since) = limit - since := IntWalk.i64_in _ (by omega)
  simp [rdogCs] at c0 c1
  by_cases h1 : limit ≤ since
  · have e1 : ticksM limit since n = (since, false) := by unfold ticksM; rw [if_pos h1]
    rw [e1]
    clear e1
    go_enter Tryz.func100, Tryz.ntmps100
    go_wp2_with fail
    go_big_quiet (fail)
    go_wp2_with fail
    go_ret
    exact ⟨rfl, hb.drewN _, (Keep.refl _ _).drewN _, rfl⟩
  by_cases h2 : limit - since ≤ n
  · have e1 : ticksM limit since n = (limit, true) := by unfold ticksM; rw [if_neg h1, if_pos h2]
    rw [e1]
    clear e1
    go_enter Tryz.func100, Tryz.ntmps100
    go_wp2_with fail
    go_big_quiet (fail)
    have hb2 := hb.drewN nq
    have hk2 := (Keep.refl (fun x => x = b) w).drewN nq
    have hs2 : Hid ((w.drewN nq).heap.size = w.heap.size) := Lib.hid rfl
    generalize w.drewN nq = W2 at *
    clear c0 c1
    have c0 := hb2.seg_cell ho 0 (by simp [rdogCs])
    have c1 := hb2.seg_cell ho 1 (by simp [rdogCs])
    simp [rdogCs] at c0 c1
    go_wp2_with fail
    go_big_quiet (fail)
    have hb3 := hb2.drewN nq
    have hk3 := hk2.drewN nq
    have hs3 : Hid ((W2.drewN nq).heap.size = w.heap.size) := Lib.hid hs2.out
    generalize W2.drewN nq = W3 at *
    clear c0 c1
    have c0 := hb3.seg_cell ho 0 (by simp [rdogCs])
    have c1 := hb3.seg_cell ho 1 (by simp [rdogCs])
    have hf3 := hb3.frozen
    simp [rdogCs] at c0 c1
    go_wp2_with fail
    go_ret
    exact ⟨rfl, by simpa [rdogCs] using hb3.seg_set ho 1 (by simp [rdogCs]) (.int .i64 limit), hk3.setCell (p := ⟨b, o + 1, none⟩) (fun _ => rfl) _, by simp [World.setCell, hs3.out]⟩
  · have e1 : ticksM limit since n = (since + n, false) := by unfold ticksM; rw [if_neg h1, if_neg h2]
    rw [e1]
    have hw2 : IntKind.i64.wrap (since + n) = since + n := IntWalk.i64_in _ (by omega)
    clear e1
    go_enter Tryz.func100, Tryz.ntmps100
    go_wp2_with fail
    go_big_quiet (fail)
    have hb2 := hb.drewN nq
    have hk2 := (Keep.refl (fun x => x = b) w).drewN nq
    have hs2 : Hid ((w.drewN nq).heap.size = w.heap.size) := Lib.hid rfl
    generalize w.drewN nq = W2 at *
    clear c0 c1
    have c0 := hb2.seg_cell ho 0 (by simp [rdogCs])
    have c1 := hb2.seg_cell ho 1 (by simp [rdogCs])
    simp [rdogCs] at c0 c1
    go_wp2_with fail
    go_big_quiet (fail)
    have hb3 := hb2.drewN nq
    have hk3 := hk2.drewN nq
    have hs3 : Hid ((W2.drewN nq).heap.size = w.heap.size) := Lib.hid hs2.out
    generalize W2.drewN nq = W3 at *
    clear c0 c1
    have c0 := hb3.seg_cell ho 0 (by simp [rdogCs])
    have c1 := hb3.seg_cell ho 1 (by simp [rdogCs])
    have hf3 := hb3.frozen
    simp [rdogCs] at c0 c1
    go_wp2_with fail
    go_ret
    exact ⟨rfl, by simpa [rdogCs] using hb3.seg_set ho 1 (by simp [rdogCs]) (.int .i64 (since + n)), hk3.setCell (p := ⟨b, o + 1, none⟩) (fun _ => rfl) _, by simp [World.setCell, hs3.out]⟩
theorem rv_made_zero (n : Nat) : madeCells #[Value.int .u8 0] n = (u8c (List.replicate n 0)).toArray := by
  apply Array.ext
  · simp [madeCells, u8c]
  · intro i h1 h2
    have hm : i % 1 = 0 := Nat.mod_one i
    simp [madeCells, u8c, hm]
/-- The valve's cells. -/
def rvCs (n : Int) (V : ValveM) (vv : Value) : List Value := [.int .i64 n, .bool V.running, .bool V.held, .bool V.fresh, .int .i64 V.latched, vv, .bool V.value.isSome]
/-- What the value's cell holds. -/
def RVal (w : World) (vv : Value) (x : Option (List UInt8)) : Prop :=
  match x with
  | none => vv = .slice none 0 0
  | some l => w.ownsRow 0 5 1 vv l.length (u8c l)
theorem RVal.keep {w w' : World} {S : Nat → Prop} {vv : Value} {x : Option (List UInt8)} (h : RVal w vv x) (hk : Keep S w w') (hx : ∀ g, vv.ownBlock = some g → ¬ S g) : RVal w' vv x := by
  cases x with
  | none => exact h
  | some b => exact ownsRow_keep h hk hx
theorem rv_cells {b o : Nat} {t : TypeId} {pre post : List Value} {n : Int} {V : ValveM} {vv : Value} {w : World} (hb : Blk w b t (seg pre (rvCs n V vv) post)) (ho : pre.length = o) :
    w.cell? ⟨b, o, none⟩ = some (.int .i64 n) ∧ w.cell? ⟨b, o + 1, none⟩ = some (.bool V.running) ∧ w.cell? ⟨b, o + 2, none⟩ = some (.bool V.held) ∧ w.cell? ⟨b, o + 3, none⟩ = some (.bool V.fresh) ∧ w.cell? ⟨b, o + 4, none⟩ = some (.int .i64 V.latched) ∧ w.cell? ⟨b, o + 5, none⟩ = some vv ∧ w.cell? ⟨b, o + 6, none⟩ = some (.bool V.value.isSome) :=
  ⟨hb.seg_cell ho 0 (by simp [rvCs]), hb.seg_cell ho 1 (by simp [rvCs]), hb.seg_cell ho 2 (by simp [rvCs]), hb.seg_cell ho 3 (by simp [rvCs]), hb.seg_cell ho 4 (by simp [rvCs]), hb.seg_cell ho 5 (by simp [rvCs]), hb.seg_cell ho 6 (by simp [rvCs])⟩
section
variable (b o : Nat) (t : TypeId) (pre post : List Value) (n : Int) (V : ValveM) (vv : Value) (w : World)
/-- Behind a call that writes the valve's cells alone. -/
def RvTo (V' : ValveM) (vv' : Value) (w' : World) : Prop := Blk w' b t (seg pre (rvCs n V' vv') post) ∧ Keep (fun x => x = b) w w' ∧ w'.heap.size = w.heap.size
theorem rvTrip_any (code : Int) (hb : Blk w b t (seg pre (rvCs n V vv) post)) (ho : pre.length = o) (hc : code ≠ 0) :
    Calls Tryz.prog 82 #[.pointer (some ⟨b, o, none⟩), .int .i64 code] w fun e w' => e = .returned (.bool (V.trip code).2) ∧ RvTo b t pre post n w (V.trip code).1 (.slice none 0 0) w' := by
  obtain ⟨c0, c1, c2, c3, c4, c5, c6⟩ := rv_cells hb ho
  have hf := hb.frozen
  obtain ⟨running, held, fresh, latched, value⟩ := V
  simp only at c0 c1 c2 c3 c4 c5 c6
  have hk : ∀ x y z u, Keep (fun x => x = b) w ((((w.setCell ⟨b, o + 6, none⟩ x).setCell ⟨b, o + 5, none⟩ y).setCell ⟨b, o + 3, none⟩ z).setCell ⟨b, o + 4, none⟩ u) := fun x y z u => ((((Keep.refl (fun x => x = b) w).setCell (p := ⟨b, o + 6, none⟩) (fun _ => rfl) _).setCell (p := ⟨b, o + 5, none⟩) (fun _ => rfl) _).setCell (p := ⟨b, o + 3, none⟩) (fun _ => rfl) _).setCell (p := ⟨b, o + 4, none⟩) (fun _ => rfl) _
  have hk3 : ∀ x y z, Keep (fun x => x = b) w (((w.setCell ⟨b, o + 6, none⟩ x).setCell ⟨b, o + 5, none⟩ y).setCell ⟨b, o + 3, none⟩ z) := fun x y z => (((Keep.refl (fun x => x = b) w).setCell (p := ⟨b, o + 6, none⟩) (fun _ => rfl) _).setCell (p := ⟨b, o + 5, none⟩) (fun _ => rfl) _).setCell (p := ⟨b, o + 3, none⟩) (fun _ => rfl) _
  by_cases hl : latched = 0
  · subst hl
    have e1 : (ValveM.mk running held fresh 0 value).trip code = (⟨running, held, false, code, none⟩, true) := by unfold ValveM.trip; rw [if_neg hc]; rfl
    rw [e1]
    clear e1
    go_enter Tryz.func82, Tryz.ntmps82
    go_wp2_with fail
    go_ret
    refine ⟨rfl, ?_, hk _ _ _ _, by simp [World.setCell]⟩
    simpa [rvCs] using (((hb.seg_set ho 6 (by simp [rvCs]) (.bool false)).seg_set ho 5 (by simp [rvCs]) (.slice none 0 0)).seg_set ho 3 (by simp [rvCs]) (.bool false)).seg_set ho 4 (by simp [rvCs]) (.int .i64 code)
  · have e1 : (ValveM.mk running held fresh latched value).trip code = (⟨running, held, false, latched, none⟩, false) := by unfold ValveM.trip; rw [if_neg hc]; simp [hl]
    rw [e1]
    have g1 : (latched != 0) = true := by simpa using hl
    clear e1
    go_enter Tryz.func82, Tryz.ntmps82
    go_wp2_with fail
    go_ret
    refine ⟨rfl, ?_, hk3 _ _ _, by simp [World.setCell]⟩
    simpa [rvCs] using ((hb.seg_set ho 6 (by simp [rvCs]) (.bool false)).seg_set ho 5 (by simp [rvCs]) (.slice none 0 0)).seg_set ho 3 (by simp [rvCs]) (.bool false)
theorem rvRun_any (on : Bool) (hb : Blk w b t (seg pre (rvCs n V vv) post)) (ho : pre.length = o) :
    Calls Tryz.prog 45 #[.pointer (some ⟨b, o, none⟩), .bool on] w fun e w' => e = .returned (.tuple #[]) ∧ RvTo b t pre post n w (V.run on) (if V.running = on then vv else .slice none 0 0) w' := by
  obtain ⟨c0, c1, c2, c3, c4, c5, c6⟩ := rv_cells hb ho
  have hf := hb.frozen
  by_cases he : V.running = on
  · have e1 : V.run on = V := by unfold ValveM.run; rw [if_pos he]
    rw [e1, if_pos he]
    have hq : ∀ W, (binOp .eql 4 (.bool V.running) (.bool on)).run Tryz.prog W = .ok (.bool true) W := by
      rw [he]
      cases on <;> exact fun _ => by kernel_rfl
    go_enter Tryz.func45, Tryz.ntmps45
    go_wp2_with fail
    first | go_end0 | refine bodyPost_ret (results_none rfl _ _ _) rfl ?_
    exact ⟨rfl, hb, Keep.refl _ _, rfl⟩
  · have e1 : V.run on = { V with running := on, held := false, value := none } := by unfold ValveM.run; rw [if_neg he]
    rw [e1, if_neg he]
    have hq : ∀ W, (binOp .eql 4 (.bool V.running) (.bool on)).run Tryz.prog W = .ok (.bool false) W := by
      cases hr : V.running <;> cases on <;> first | exact absurd hr he | exact fun _ => by kernel_rfl
    obtain ⟨running, held, fresh, latched, value⟩ := V
    simp only at *
    clear he e1
    go_enter Tryz.func45, Tryz.ntmps45
    go_wp2_with fail
    go_end0
    refine ⟨rfl, ?_, ((((Keep.refl (fun x => x = b) w).setCell (p := ⟨b, o + 1, none⟩) (fun _ => rfl) _).setCell (p := ⟨b, o + 2, none⟩) (fun _ => rfl) _).setCell (p := ⟨b, o + 6, none⟩) (fun _ => rfl) _).setCell (p := ⟨b, o + 5, none⟩) (fun _ => rfl) _, by simp [World.setCell]⟩
    simpa [rvCs] using (((hb.seg_set ho 1 (by simp [rvCs]) (.bool on)).seg_set ho 2 (by simp [rvCs]) (.bool false)).seg_set ho 6 (by simp [rvCs]) (.bool false)).seg_set ho 5 (by simp [rvCs]) (.slice none 0 0)
theorem rvHold_any (on : Bool) (hb : Blk w b t (seg pre (rvCs n V vv) post)) (ho : pre.length = o) :
    Calls Tryz.prog 96 #[.pointer (some ⟨b, o, none⟩), .bool on] w fun e w' => e = .returned (.tuple #[]) ∧ RvTo b t pre post n w (V.hold on) vv w' := by
  obtain ⟨c0, c1, c2, c3, c4, c5, c6⟩ := rv_cells hb ho
  have hf := hb.frozen
  obtain ⟨running, held, fresh, latched, value⟩ := V
  unfold ValveM.hold
  simp only at *
  cases on <;> cases running <;>
  · go_enter Tryz.func96, Tryz.ntmps96
    go_wp2_with fail
    go_end0
    refine ⟨rfl, ?_, (Keep.refl (fun x => x = b) w).setCell (p := ⟨b, o + 2, none⟩) (fun _ => rfl) _, by simp [World.setCell]⟩
    first | simpa [rvCs] using hb.seg_set ho 2 (by simp [rvCs]) (.bool false) | simpa [rvCs] using hb.seg_set ho 2 (by simp [rvCs]) (.bool true)
theorem rvCome_any (hb : Blk w b t (seg pre (rvCs n V vv) post)) (ho : pre.length = o) (hfr : V.fresh = true → V.latched ≠ 0) :
    Calls Tryz.prog 127 #[.pointer (some ⟨b, o, none⟩)] w fun e w' => e = .returned (.tuple #[]) ∧ RvTo b t pre post n w V.come vv w' := by
  obtain ⟨c0, c1, c2, c3, c4, c5, c6⟩ := rv_cells hb ho
  have hf := hb.frozen
  obtain ⟨running, held, fresh, latched, value⟩ := V
  unfold ValveM.come
  simp only at *
  by_cases hl : latched = 0
  · subst hl
    have hfr2 : fresh = false := by cases fresh <;> simp_all
    subst hfr2
    go_enter Tryz.func127, Tryz.ntmps127
    go_wp2_with fail
    first | go_end0 | refine bodyPost_ret (results_none rfl _ _ _) rfl ?_
    exact ⟨rfl, hb, Keep.refl _ _, rfl⟩
  · have g1 : (latched != 0) = true := by simpa using hl
    rw [g1]
    go_enter Tryz.func127, Tryz.ntmps127
    go_wp2_with fail
    go_end0
    refine ⟨rfl, ?_, (Keep.refl (fun x => x = b) w).setCell (p := ⟨b, o + 3, none⟩) (fun _ => rfl) _, by simp [World.setCell]⟩
    simpa [rvCs] using hb.seg_set ho 3 (by simp [rvCs]) (.bool true)
theorem rvRequest_any (hb : Blk w b t (seg pre (rvCs n V vv) post)) (ho : pre.length = o) :
    Calls Tryz.prog 87 #[.pointer (some ⟨b, o, none⟩)] w fun e w' => e = .returned (.bool V.request) ∧ w' = w := by
  obtain ⟨c0, c1, c2, c3, c4, c5, c6⟩ := rv_cells hb ho
  obtain ⟨running, held, fresh, latched, value⟩ := V
  unfold ValveM.request
  simp only at *
  by_cases hl : latched = 0
  · subst hl
    cases running <;> cases fresh <;>
    · go_enter Tryz.func87, Tryz.ntmps87
      go_wp2_with fail
      go_ret
      exact ⟨rfl, rfl⟩
  · have g1 : (latched != 0) = true := by simpa using hl
    rw [g1]
    cases running <;> cases fresh <;>
    · go_enter Tryz.func87, Tryz.ntmps87
      go_wp2_with fail
      go_ret
      exact ⟨rfl, rfl⟩
theorem rvAck_any (hb : Blk w b t (seg pre (rvCs n V vv) post)) (ho : pre.length = o) :
    Calls Tryz.prog 101 #[.pointer (some ⟨b, o, none⟩)] w fun e w' => e = .returned (.bool V.request) ∧ RvTo b t pre post n w V.ack vv w' := by
  have hf := hb.frozen
  obtain ⟨c0, c1, c2, c3, c4, c5, c6⟩ := rv_cells hb ho
  have hreq := rvRequest_any b o t pre post n V vv w hb ho
  cases hr : V.request with
  | false =>
    have e1 : V.ack = V := by unfold ValveM.ack; rw [hr]; rfl
    rw [e1]
    rw [hr] at hreq
    go_enter Tryz.func101, Tryz.ntmps101
    go_wp2_with fail
    refine hreq.mono ?_
    rintro e w1 ⟨rfl, rfl⟩
    go_wp2_with fail
    go_ret
    exact ⟨rfl, hb, Keep.refl _ _, rfl⟩
  | true =>
    have e1 : V.ack = { V with latched := 0, fresh := false } := by unfold ValveM.ack; rw [hr]; rfl
    rw [e1]
    rw [hr] at hreq
    obtain ⟨running, held, fresh, latched, value⟩ := V
    simp only at *
    clear e1 hr
    go_enter Tryz.func101, Tryz.ntmps101
    go_wp2_with fail
    refine hreq.mono ?_
    rintro e w1 ⟨rfl, rfl⟩
    go_wp2_with fail
    go_ret
    refine ⟨rfl, ?_, ((Keep.refl (fun x => x = b) w1).setCell (p := ⟨b, o + 4, none⟩) (fun _ => rfl) _).setCell (p := ⟨b, o + 3, none⟩) (fun _ => rfl) _, by simp [World.setCell]⟩
    simpa [rvCs] using (hb.seg_set ho 4 (by simp [rvCs]) (.int .i64 0)).seg_set ho 3 (by simp [rvCs]) (.bool false)
theorem rvTake_any (A : Option Addr) (m c Br : Nat) (l : List UInt8) (hb : Blk w b t (seg pre (rvCs n V vv) post)) (ho : pre.length = o) (hv : RVal w vv V.value) (hr : Reads w Br 1 A m (u8c l)) (hB : Br ≤ w.heap.size) (hm : m ≤ 1000000) (hA : ∀ ad, A = some ad → ad.block ≠ b) :
    Calls Tryz.prog 97 #[.pointer (some ⟨b, o, none⟩), .slice A m c] w fun e w' => e = .returned (.tuple #[]) ∧ ∃ vv', Blk w' b t (seg pre (rvCs n (V.take l) vv') post) ∧ RVal w' vv' (V.take l).value ∧ Keep (fun x => x = b) w w' ∧ (vv' = vv ∨ ∀ x, vv'.ownBlock = some x → w.heap.size ≤ x ∧ x < w'.heap.size) := by
  obtain ⟨i0, hi0, hz0, hz1, hz2⟩ := info_parts byte_info
  have hl : l.length = m := by have := hr.1; simpa [u8c] using this
  have Hl := Lib.hid hl
  obtain ⟨c0, c1, c2, c3, c4, c5, c6⟩ := rv_cells hb ho
  have hf := hb.frozen
  have hblt := hb.lt
  clear hl
  cases hq : (V.running && V.latched == 0) with
  | false =>
    have e1 : V.take l = V := by unfold ValveM.take; rw [hq]; rfl
    rw [e1]
    obtain ⟨running, held, fresh, latched, value⟩ := V
    simp only at *
    cases running with
    | false =>
      go_enter Tryz.func97, Tryz.ntmps97
      go_wp2_with fail
      first | go_end0 | refine bodyPost_ret (results_none rfl _ _ _) rfl ?_
      exact ⟨rfl, vv, hb, hv, Keep.refl _ _, .inl rfl⟩
    | true =>
      have g1 : (latched == 0) = false := by simpa using hq
      go_enter Tryz.func97, Tryz.ntmps97
      go_wp2_with fail
      first | go_end0 | refine bodyPost_ret (results_none rfl _ _ _) rfl ?_
      exact ⟨rfl, vv, hb, hv, Keep.refl _ _, .inl rfl⟩
  | true =>
    have e1 : V.take l = { V with value := some l } := by unfold ValveM.take; rw [hq]; rfl
    rw [e1]
    obtain ⟨running, held, fresh, latched, value⟩ := V
    simp only at *
    obtain ⟨hq1, hq2⟩ : running = true ∧ latched = 0 := by simpa using hq
    subst hq1 hq2
    clear e1 hq
    have hb1 : Blk (w.setCell ⟨b, o + 6, none⟩ (.bool true)) b t (seg pre [.int .i64 n, .bool true, .bool held, .bool fresh, .int .i64 0, vv, .bool true] post) := by simpa [rvCs] using hb.seg_set ho 6 (by simp [rvCs]) (.bool true)
    have hk1 : Keep (fun x => x = b) w (w.setCell ⟨b, o + 6, none⟩ (.bool true)) := (Keep.refl (fun x => x = b) w).setCell (p := ⟨b, o + 6, none⟩) (fun _ => rfl) _
    have hz1' : (w.setCell ⟨b, o + 6, none⟩ (.bool true)).heap.size = w.heap.size := by simp [World.setCell]
    have hmade : ((w.setCell ⟨b, o + 6, none⟩ (.bool true)).alloc (.cells #[] 5)).ownsRow w.heap.size 5 1 (.slice (some ⟨w.heap.size, 0, none⟩) 0 0) 0 [] := by
      have := World.ownsRow_made (base := w.heap.size) (e := 5) (size := 1) (w.setCell ⟨b, o + 6, none⟩ (.bool true)) #[] 0 (by rw [hz1']; exact Nat.le_refl _) (by unfold maxLen; omega) rfl
      rwa [hz1'] at this
    have hr1 : Reads ((w.setCell ⟨b, o + 6, none⟩ (.bool true)).alloc (.cells #[] 5)) Br 1 A m (u8c l) := by
      refine Reads.alloc ⟨hr.1, fun hn => ?_⟩ (by rw [hz1']; exact hB) _
      obtain ⟨ad, e, hlt, hcl⟩ := hr.2 hn
      refine ⟨ad, e, hlt, fun j y hy => ?_⟩
      rw [World.cell?_setCell_other _ _ _ _ (fun e2 => hA ad e (by rw [← block_of_add ad j, ← e2]))]
      exact hcl j y hy
    go_enter Tryz.func97, Tryz.ntmps97
    go_wp2_with (at_builtin; refine wpList_append_any _ rfl (.tmp 19) (.tmp 20) _ rfl w.heap.size 5 i0 _ 1 1 Tryz.underlying22 hi0 hz0 hz1 hz2 rfl (by omega) (.slice (some ⟨w.heap.size, 0, none⟩) 0 0) 0 [] rfl hmade Br A m c (u8c l) rfl hr1 (u8c_one l) (by unfold maxLen; omega) (by omega) (by simp [World.setCell]) ?_; intro v2 w2 hown2 hg2 hat2; obtain ⟨A2, c2', rfl⟩ := own_slice hown2; have hb2 := (hb1.alloc (.cells #[] 5)).grown hg2 (fun h => by simp [Value.ownBlock] at h; omega); obtain ⟨d0, d1, d2, d3, d4, d5, d6⟩ := rv_cells (V := ⟨true, held, fresh, 0, some l⟩) hb2 ho; have hf2 := hb2.frozen)
    all_goals
      first | go_end0 | refine bodyPost_ret (results_none rfl _ _ _) rfl ?_
      have hs2 := hg2.size
      simp [World.setCell] at hs2
      have hne3 : (Value.slice A2 (0 + m) c2').ownBlock ≠ some b := fun h => by have := (hown2.lt b h).1; omega
      refine ⟨rfl, .slice A2 (0 + m) c2', ?_, ?_, ?_, .inr fun x hx => ?_⟩
      · simpa [rvCs] using hb2.seg_set ho 5 (by simp) (.slice A2 (0 + m) c2')
      · have h1 := ownsRow_keep (S := fun x => x = b) hown2 ((Keep.refl (fun x => x = b) w2).setCell (p := ⟨b, o + 5, none⟩) (fun _ => rfl) (.slice A2 (0 + m) c2')) (fun x hx e => hne3 (e ▸ hx))
        show World.ownsRow _ 0 _ _ _ l.length _
        rw [Hl.out]
        have h2 : ∀ {v : Value} {N : Nat} {xs : List Value} {W : World}, W.ownsRow w.heap.size 5 1 v N xs → W.ownsRow 0 5 1 v N xs := fun h => ⟨h.1, h.2.imp id (fun ⟨g, cap, cur, e, _, r⟩ => ⟨g, cap, cur, e, Nat.zero_le _, r⟩)⟩
        simpa using h2 h1
      · exact (((hk1.alloc _).grown hg2 (fun k h hk => by simp [Value.ownBlock] at h; omega)).setCell (p := ⟨b, o + 5, none⟩) (fun _ => rfl) _)
      · have h1 := hown2.lt x hx
        have h2 : (w2.setCell ⟨b, o + 5, none⟩ (.slice A2 m c2')).heap.size = w2.heap.size := by simp [World.setCell]
        rw [h2]; exact h1
theorem rvOutput_any (N : Nat) (hb : Blk w b t (seg pre (rvCs N V vv) post)) (ho : pre.length = o) (hv : RVal w vv V.value) (hN : N ≤ 8) (hval : ∀ l, V.value = some l → l.length = N) :
    Calls Tryz.prog 86 #[.pointer (some ⟨b, o, none⟩)] w fun e w' => ∃ x, e = .returned (.tuple #[x, .bool V.on]) ∧ w'.ownsRow w.heap.size 5 1 x N (u8c (V.output N)) ∧ Below w.heap.size w w' := by
  obtain ⟨i0, hi0, hz0, hz1, hz2⟩ := info_parts byte_info
  obtain ⟨c0, c1, c2, c3, c4, c5, c6⟩ := rv_cells hb ho
  cases hon : V.on with
  | true =>
    obtain ⟨running, held, fresh, latched, value⟩ := V
    obtain ⟨l, rfl⟩ : ∃ l, value = some l := by
      cases value with
      | none => simp [ValveM.on] at hon
      | some l => exact ⟨l, rfl⟩
    obtain ⟨h1, h2⟩ : running = true ∧ held = false := by simpa [ValveM.on] using hon
    subst h1 h2
    simp only at *
    have hll := hval l rfl
    subst hll
    have hown : w.ownsRow 0 5 1 vv l.length (u8c l) := hv
    obtain ⟨A, c, rfl⟩ := own_slice hown
    have hr := Reads.of_own hown
    have hout : (ValveM.mk true false fresh latched (some l)).output (l.length : Nat) = l := by simp [ValveM.output, ValveM.on]
    rw [hout]
    replace c6 : w.cell? ⟨b, o + 6, none⟩ = some (.bool true) := c6
    have hblt := hb.lt
    have hA1 : ∀ (W : World) (ob : Obj) (i : Nat), b < W.heap.size → (W.alloc ob).cell? ⟨b, i, none⟩ = W.cell? ⟨b, i, none⟩ := fun W ob i hlt => cellA hlt ob i
    clear hon hout hval
    go_enter Tryz.func86, Tryz.ntmps86
    go_wp2_with (at_builtin; refine wpList_append_any _ rfl (.tmp 21) (.tmp 25) _ rfl w.heap.size 5 i0 _ 1 1 Tryz.underlying22 hi0 hz0 hz1 hz2 rfl (by omega) (.slice (some ⟨w.heap.size, 0, none⟩) 0 0) 0 [] rfl (World.ownsRow_made w #[] 0 (Nat.le_refl _) (by unfold maxLen; omega) rfl) w.heap.size A l.length c (u8c l) rfl (hr.alloc (Nat.le_refl _) _) (u8c_one l) (by unfold maxLen; omega) (by omega) (by simp) ?_; intro v1 w1 hown1 hg1 hat1; obtain ⟨A1, c1', rfl⟩ := own_slice hown1)
    all_goals
      refine bodyPost_ret (v := .tuple #[.slice A1 (0 + l.length) c1', .bool true]) (by simp [results, Tryz.results86, go_sem]) rfl ⟨_, rfl, by simpa using hown1, ((Below.refl _ _).alloc (Nat.le_refl _) _).grown hg1 (by simp) (fun k hk => by simp [Value.ownBlock] at hk; omega)⟩
  | false =>
    have hout : V.output N = List.replicate N 0 := by simp [ValveM.output, hon]
    rw [hout]
    have hmk := run_make_row' (P := Tryz.prog) 22 5 (.int .u8 0) 1 Tryz.underlying22 byte_info rfl .i64 .i64 N (by omega) (by omega)
    have hmade : (w.alloc (.cells (madeCells #[.int .u8 0] N) 5)).ownsRow w.heap.size 5 1 (.slice (some ⟨w.heap.size, 0, none⟩) N N) N (u8c (List.replicate N 0)) := by
      rw [rv_made_zero]
      have := own_full w (u8c (List.replicate N 0)).toArray 5 w.heap.size (Nat.le_refl _) (by simp [u8c, maxLen]; omega)
      simpa [u8c] using this
    have hbl : Below w.heap.size w (w.alloc (.cells (madeCells #[.int .u8 0] N) 5)) := (Below.refl _ _).alloc (Nat.le_refl _) _
    obtain ⟨running, held, fresh, latched, value⟩ := V
    simp only at *
    have hon' : (running && !held && value.isSome) = false := hon
    generalize value.isSome = so at *
    clear hout hv hval hon
    cases running <;> cases held <;> cases so <;> first
      | (simp at hon'; done)
      | (go_enter Tryz.func86, Tryz.ntmps86
         go_wp2_with fail
         refine bodyPost_ret (v := .tuple #[.slice (some ⟨w.heap.size, 0, none⟩) N N, .bool false]) (by simp [results, Tryz.results86, go_sem]) rfl ⟨_, rfl, hmade, hbl⟩)
end
end Go.Proofs.YtfoldlbnkfnenaaGreat
/- The reference's log (parapetref12): a slice of all records in a cell of a struct. -/
namespace Go.Proofs.YtfoldlbnkfnenaaGreat
open Go.RowKit
set_option maxHeartbeats 600000
set_option maxRecDepth 100000

/-- The log in cell off of block b (whose cells are cs, of type t): all records L; F: its row's block. -/
structure LogAt (w : World) (b : Nat) (t : TypeId) (cs : Array Value) (off : Nat) (L : List Rec) (F : Nat → Prop) (A : Option Addr) (c : Nat) : Prop where
  blk : Blk w b t cs
  at_ : cs[off]? = some (.slice A L.length c)
  row : w.ownsRow 0 145 4 (.slice A L.length c) L.length (recsCells L)
  own : ∀ g, (Value.slice A L.length c).ownBlock = some g → F g
  ne : 145 ≠ t
def LogIs (w : World) (b : Nat) (t : TypeId) (cs : Array Value) (off : Nat) (L : List Rec) (F : Nat → Prop) : Prop := ∃ A c, LogAt w b t cs off L F A c

theorem LogIs.keep {w w' : World} {b : Nat} {t : TypeId} {cs cs' : Array Value} {off : Nat} {L : List Rec} {F F' S : Nat → Prop} (h : LogIs w b t cs off L F) (hk : Keep S w w') (hS : ∀ x, F x → ¬ S x) (hF : ∀ x, F x → F' x)
    (hb : Blk w' b t cs') (he : cs'[off]? = cs[off]?) : LogIs w' b t cs' off L F' := by
  obtain ⟨A, c, D⟩ := h
  exact ⟨A, c, hb, he.trans D.at_, ownsRow_keep D.row hk (fun g h => hS g (D.own g h)), fun g h => hF g (D.own g h), D.ne⟩

theorem LogAt.appended {w : World} {b : Nat} {t : TypeId} {cs : Array Value} {off : Nat} {L : List Rec} {F : Nat → Prop} {A : Option Addr} {c : Nat} (D : LogAt w b t cs off L F A c) (r : Rec) {n : Nat} (hn : L.length = n) {o : Obj} {w4 : World} {A' : Option Addr} {c' : Nat}
    (hg : (w.alloc o).drew.grownBy w4 (Value.slice A n c).ownBlock) (hown : w4.ownsRow 0 145 4 (.slice A' (n + 1) c') (n + 1) (recsCells L ++ r.cells.toList))
    (hat : (Value.slice A' (n + 1) c').ownBlock = (Value.slice A n c).ownBlock ∨ (Value.slice A' (n + 1) c').ownBlock = some (w.alloc o).drew.heap.size) :
    LogIs (w4.setCell ⟨b, off, none⟩ (.slice A' (n + 1) c')) b t (cs.setIfInBounds off (.slice A' (n + 1) c')) off (L ++ [r]) (fun x => F x ∨ (w.heap.size ≤ x ∧ x < (w4.setCell ⟨b, off, none⟩ (.slice A' (n + 1) c')).heap.size)) ∧
      Keep (fun x => F x ∨ x = b) w (w4.setCell ⟨b, off, none⟩ (.slice A' (n + 1) c')) := by
  subst hn
  have hlen : off < cs.size := by
    rcases Nat.lt_or_ge off cs.size with h | h
    · exact h
    · have := D.at_; rw [Array.getElem?_eq_none h] at this; cases this
  have hk1 : Keep F w w4 := ((Keep.refl F w).alloc o).drew.grown hg (fun k h _ => D.own k h)
  have hself : Blk w4 b t cs := (D.blk.alloc o).drew.grown hg (own_ne D.row D.blk D.ne)
  have hsz : (w4.setCell ⟨b, off, none⟩ (.slice A' (L.length + 1) c')).heap.size = w4.heap.size := by simp [World.setCell]
  have hk2 : Keep (fun k => k = b) w4 (w4.setCell ⟨b, off, none⟩ (.slice A' (L.length + 1) c')) := (Keep.refl (fun k => k = b) _).setCell (p := ⟨b, off, none⟩) (fun _ => rfl) _
  refine ⟨⟨A', c', hself.set_ off _, by simp [hlen], ?_, ?_, D.ne⟩, (hk1.mono (fun _ _ h => .inl h)).trans (hk2.mono (fun _ _ h => .inr h))⟩
  · rw [List.length_append, recsCells_append]
    refine ownsRow_keep (n := L.length + 1) (xs := recsCells L ++ recsCells [r]) ?_ hk2 ?_
    · simpa [recsCells] using hown
    · rintro g hg' rfl
      exact own_ne hown hself D.ne hg'
  · rintro g hg'
    have hg'' : (Value.slice A' (L.length + 1) c').ownBlock = some g := by
      rw [List.length_append] at hg'; exact hg'
    rw [hsz]
    rcases hat with e | e
    · rw [hg''] at e
      exact .inl (D.own g e.symm)
    · have := (hown.lt g hg'').2
      rw [hg''] at e
      obtain rfl := Option.some.inj e
      exact .inr ⟨by show w.heap.size ≤ (w.alloc o).heap.size; simp, this⟩

theorem refNote_any (b off : Nat) (t : TypeId) (cs : Array Value) (L : List Rec) (F : Nat → Prop) (code s k : Int) (w : World) (h : LogIs w b t cs off L F) (hs : L.length < 1073741823) :
    Calls Tryz.prog 53 #[.pointer (some ⟨b, off, none⟩), .int .i64 code, .int .u32 s, .int .u32 k] w fun e w' =>
      e = .returned (.int .i64 (L.length + 1)) ∧ (∃ v, LogIs w' b t (cs.setIfInBounds off v) off (L ++ [⟨L.length + 1, code, s, k⟩]) (fun x => F x ∨ (w.heap.size ≤ x ∧ x < w'.heap.size))) ∧ Keep (fun x => F x ∨ x = b) w w' := by
  obtain ⟨A, c, D⟩ := h
  have hlen : off < cs.size := by
    rcases Nat.lt_or_ge off cs.size with h | h
    · exact h
    · have := D.at_; rw [Array.getElem?_eq_none h] at this; cases this
  have hC : w.cell? ⟨b, off, none⟩ = some (.slice A L.length c) := (D.blk.cell off).trans D.at_
  have hZ := D.blk.frozen off
  have hA1 : ∀ (W : World) (o : Obj), b < W.heap.size → (W.alloc o).cell? ⟨b, off, none⟩ = W.cell? ⟨b, off, none⟩ := fun W o hlt => cellA hlt o off
  have hblt := D.blk.lt
  obtain ⟨i0, hi0, hz0, hz1, hz2⟩ := info_parts rec_info
  obtain ⟨m, hm⟩ : ∃ m, m = L.length := ⟨_, rfl⟩
  rw [← hm] at hC hs ⊢
  have hat : cs[off]? = some (.slice A m c) := by rw [hm]; exact D.at_
  have Hat := Lib.hid hat
  have Hm := Lib.hid hm
  have hrow := D.row
  rw [← hm] at hrow
  clear hm hat
  have hwr : IntKind.i64.wrap ((m : Int) + 1) = m + 1 := IntWalk.i64_in _ (by omega)
  go_enter Tryz.func53, Tryz.ntmps53
  go_wp2_with fail
  go_region_law (refine step_append_any _ rfl (.tmp 13) (.tmp 24) _ rfl 0 145 i0 _ 4 24 Tryz.underlying68 hi0 hz0 hz1 hz2 rfl (by omega) (.slice A m c) m (recsCells L) rfl (hrow.alloc _) (w.heap.size + 1) (some ⟨w.heap.size, 0, none⟩) 1 1 _ rfl (Reads.of_blk (Blk.new w _ _) (by omega) rfl) (by simp [Value.oneCell']) (by unfold maxLen; omega) (by omega) (Nat.zero_le _) ?_; intro v4 W4 hown4 hg4 hat4; obtain ⟨A4, c4, rfl⟩ := own_slice hown4; have hB4 := (D.blk.alloc (.cells #[.int .i64 (m + 1), .int .i64 code, .int .u32 s, .int .u32 k] 145)).drew.grown hg4 (own_ne hrow D.blk D.ne); have hA4 : W4.cell? ⟨b, off, none⟩ = some (.slice A m c) := (hB4.cell off).trans Hat.out; have hZ4 := hB4.frozen off)
  all_goals
    go_wp2_with fail
    go_ret
    obtain ⟨h1, h2⟩ := D.appended ⟨(m : Int) + 1, code, s, k⟩ Hm.out.symm hg4 hown4 hat4
    exact ⟨rfl, ⟨_, h1⟩, h2⟩
end Go.Proofs.YtfoldlbnkfnenaaGreat
/- The reference's host in memory (parapetref14): one block, its log's row, its valve's value, its value. -/
namespace Go.Proofs.YtfoldlbnkfnenaaGreat
open Go.RowKit
set_option maxHeartbeats 4000000
set_option maxRecDepth 100000

def rhPre (m : HostM) (lg : Value) : List Value := [.int .u32 m.p.code, .int .i64 m.p.out, .int .i64 m.p.inn, .int .i64 m.p.watch, .int .u32 m.p.count, lg]
def rhPost (m : HostM) (val : Value) : List Value := [.int .i64 m.state, .int .u32 m.session, .int .u32 m.number, .int .u32 m.sent, .bool m.waits, .int .i64 m.missed, val, .bool m.hold]
def rhCells (m : HostM) (lg vv val : Value) : Array Value :=
  #[.int .u32 m.p.code, .int .i64 m.p.out, .int .i64 m.p.inn, .int .i64 m.p.watch, .int .u32 m.p.count, lg, .int .i64 m.p.watch, .int .i64 m.since,
    .int .i64 m.p.inn, .bool m.valve.running, .bool m.valve.held, .bool m.valve.fresh, .int .i64 m.valve.latched, vv, .bool m.valve.value.isSome,
    .int .i64 m.state, .int .u32 m.session, .int .u32 m.number, .int .u32 m.sent, .bool m.waits, .int .i64 m.missed, val, .bool m.hold]
theorem rh_dog (m : HostM) (lg vv val : Value) : rhCells m lg vv val = seg (rhPre m lg) (rdogCs m.p.watch m.since) (rvCs m.p.inn m.valve vv ++ rhPost m val) := rfl
theorem rh_valve (m : HostM) (lg vv val : Value) : rhCells m lg vv val = seg (rhPre m lg ++ rdogCs m.p.watch m.since) (rvCs m.p.inn m.valve vv) (rhPost m val) := rfl
/-- The reference's host m at block b: its log's row (A, c), its valve's value, its value; all that is its own lies in F, from B on. -/
structure RHAt (B : Nat) (w : World) (b : Nat) (m : HostM) (F : Nat → Prop) (A : Option Addr) (c : Nat) (vv val : Value) : Prop where
  blk : Blk w b 96 (rhCells m (.slice A m.log.length c) vv val)
  log : w.ownsRow 0 145 4 (.slice A m.log.length c) m.log.length (recsCells m.log)
  vval : RVal w vv m.valve.value
  value : w.ownsRow 0 5 1 val m.value.length (u8c m.value)
  fb : F b
  fl : ∀ x, (Value.slice A m.log.length c).ownBlock = some x → F x
  fv : ∀ x, vv.ownBlock = some x → F x
  fx : ∀ x, val.ownBlock = some x → F x
  lo : ∀ x, F x → B ≤ x ∧ x < w.heap.size
def RHIs (B : Nat) (w : World) (b : Nat) (m : HostM) (F : Nat → Prop) : Prop := ∃ A c vv val, RHAt B w b m F A c vv val
/-- What a call on it leaves. -/
structure RHTo (B : Nat) (w : World) (b : Nat) (m : HostM) (F : Nat → Prop) (w' : World) : Prop where
  is_ : RHIs B w' b m (grow F w w')
  keep : Keep F w w'
section
variable {B : Nat} {w w' w1 w2 : World} {b : Nat} {m m' m1 m2 : HostM} {F F' S : Nat → Prop} {A A' : Option Addr} {c c' : Nat} {vv vv' val val' : Value}
theorem RHAt.Ble (h : RHAt B w b m F A c vv val) : B ≤ w.heap.size := by have := h.lo b h.fb; omega
theorem RVal.ne {x : Option (List UInt8)} {g : Nat} {t : TypeId} {cs : Array Value} (h : RVal w vv x) (hg : Blk w g t cs) (hne : 5 ≠ t) : vv.ownBlock ≠ some g := by
  cases x with
  | none => rw [show vv = .slice none 0 0 from h]; simp [Value.ownBlock]
  | some l => exact own_ne h hg hne
theorem own_obj {base size n : Nat} {e : TypeId} {v : Value} {xs : List Value} {g : Nat} (h : w.ownsRow base e size v n xs) (hg : v.ownBlock = some g) : ∃ cs, Blk w g e cs := by
  rcases h.2 with ⟨rfl, _⟩ | ⟨g', cap, cur, rfl, _, hh, _⟩
  · simp [Value.ownBlock] at hg
  · have : g' = g := by simpa [Value.ownBlock] using hg
    subst this
    exact ⟨cur, hh⟩
theorem RHAt.keepS (h : RHAt B w b m F A c vv val) (hk : Keep S w w') (hS : ∀ x, F x → ¬ S x) : RHAt B w' b m F A c vv val where
  blk := h.blk.keep hk (hS _ h.fb)
  log := ownsRow_keep h.log hk (fun x hx => hS _ (h.fl x hx))
  vval := h.vval.keep hk (fun x hx => hS _ (h.fv x hx))
  value := ownsRow_keep h.value hk (fun x hx => hS _ (h.fx x hx))
  fb := h.fb
  fl := h.fl
  fv := h.fv
  fx := h.fx
  lo := fun x hx => by have := h.lo x hx; have := hk.size; omega
theorem RHAt.drew (h : RHAt B w b m F A c vv val) : RHAt B w.drew b m F A c vv val := h.keepS (S := fun _ => False) (Keep.refl _ w).drew (fun _ _ h => h)
theorem RHAt.below (h : RHAt B w b m F A c vv val) (hb : Below w.heap.size w w') : RHAt B w' b m F A c vv val := h.keepS (S := fun _ => False) (Keep.of_below hb) (fun _ _ h => h)
theorem RHAt.mono (h : RHAt B w b m F A c vv val) (hF : ∀ x, F x → F' x) (hb : ∀ x, F' x → B ≤ x ∧ x < w.heap.size) : RHAt B w b m F' A c vv val :=
  { h with fb := hF _ h.fb, fl := fun x hx => hF _ (h.fl x hx), fv := fun x hx => hF _ (h.fv x hx), fx := fun x hx => hF _ (h.fx x hx), lo := hb }
/-- Behind a store into its block. -/
theorem RHAt.upd (h : RHAt B w b m F A c vv val) (hk : Keep (fun x => x = b) w w') (hs : w'.heap.size = w.heap.size) (hb : Blk w' b 96 (rhCells m' (.slice A m.log.length c) vv val)) (e1 : m'.log = m.log) (e2 : m'.valve.value = m.valve.value) (e3 : m'.value = m.value) : RHAt B w' b m' F A c vv val where
  blk := by rw [e1]; exact hb
  log := by rw [e1]; exact ownsRow_keep h.log hk (fun x hx e => own_ne h.log h.blk (by decide) (e ▸ hx))
  vval := by rw [e2]; exact h.vval.keep hk (fun x hx e => h.vval.ne h.blk (by decide) (e ▸ hx))
  value := by rw [e3]; exact ownsRow_keep h.value hk (fun x hx e => own_ne h.value h.blk (by decide) (e ▸ hx))
  fb := h.fb
  fl := by rw [e1]; exact h.fl
  fv := h.fv
  fx := h.fx
  lo := by rw [hs]; exact h.lo
/-- Behind a call on the valve that empties it, or lets its value be. -/
theorem RHAt.onValve (h : RHAt B w b m F A c vv val) {V' : ValveM} (hr : RvTo b 96 (rhPre m (.slice A m.log.length c) ++ rdogCs m.p.watch m.since) (rhPost m val) m.p.inn w V' vv' w') (hv : (vv' = vv ∧ V'.value = m.valve.value) ∨ (vv' = .slice none 0 0 ∧ V'.value = none)) : RHAt B w' b { m with valve := V' } F A c vv' val := by
  obtain ⟨hb, hk, hs⟩ := hr
  exact {
    blk := hb
    log := ownsRow_keep h.log hk (fun x hx e => own_ne h.log h.blk (by decide) (e ▸ hx))
    vval := by
      rcases hv with ⟨rfl, e⟩ | ⟨rfl, e⟩
      · simp only; rw [e]; exact h.vval.keep hk (fun x hx e => h.vval.ne h.blk (by decide) (e ▸ hx))
      · simp only; rw [e]; rfl
    value := ownsRow_keep h.value hk (fun x hx e => own_ne h.value h.blk (by decide) (e ▸ hx))
    fb := h.fb
    fl := h.fl
    fv := by
      rcases hv with ⟨rfl, _⟩ | ⟨rfl, _⟩
      · exact h.fv
      · intro x hx; simp [Value.ownBlock] at hx
    fx := h.fx
    lo := by rw [hs]; exact h.lo }
theorem RHAt.valveBlk (h : RHAt B w b m F A c vv val) : Blk w b 96 (seg (rhPre m (.slice A m.log.length c) ++ rdogCs m.p.watch m.since) (rvCs m.p.inn m.valve vv) (rhPost m val)) := h.blk
theorem RHAt.dogBlk (h : RHAt B w b m F A c vv val) : Blk w b 96 (seg (rhPre m (.slice A m.log.length c)) (rdogCs m.p.watch m.since) (rvCs m.p.inn m.valve vv ++ rhPost m val)) := h.blk
/-- The log's cell. -/
theorem RHAt.logIs (h : RHAt B w b m F A c vv val) : LogIs w b 96 (rhCells m (.slice A m.log.length c) vv val) 5 m.log (fun x => (Value.slice A m.log.length c).ownBlock = some x) :=
  ⟨A, c, h.blk, rfl, h.log, fun _ h => h, by decide⟩
theorem rh_log (m : HostM) (L : List Rec) (lg vv val v : Value) : (rhCells m lg vv val).setIfInBounds 5 v = rhCells { m with log := L } v vv val := rfl
/-- Behind a note in the log. -/
theorem RHAt.onLog (h : RHAt B w b m F A c vv val) {L' : List Rec} {v : Value} {FL : Nat → Prop} (hl : LogIs w' b 96 ((rhCells m (.slice A m.log.length c) vv val).setIfInBounds 5 v) 5 L' FL) (hFL : ∀ x, FL x → grow F w w' x) (hk : Keep (fun x => (Value.slice A m.log.length c).ownBlock = some x ∨ x = b) w w') :
    ∃ A' c', RHAt B w' b { m with log := L' } (grow F w w') A' c' vv val := by
  obtain ⟨A', c', D⟩ := hl
  have e : v = .slice A' L'.length c' := by
    have := D.at_
    simpa [rhCells] using this
  subst e
  have ho : ∀ (x : Nat), (∃ cs, Blk w x 5 cs) → ¬ ((Value.slice A m.log.length c).ownBlock = some x ∨ x = b) := by
    rintro x ⟨cs, hx⟩ (e | e)
    · exact own_ne h.log hx (by decide) e
    · subst e; exact Blk.ne_ hx h.blk (by decide) rfl
  refine ⟨A', c', {
    blk := D.blk
    log := D.row
    vval := ?_
    value := ownsRow_keep h.value hk (fun x hx => ho x (own_obj h.value hx))
    fb := .inl h.fb
    fl := fun x hx => hFL x (D.own x hx)
    fv := fun x hx => .inl (h.fv x hx)
    fx := fun x hx => .inl (h.fx x hx)
    lo := fun x hx => ?_ }⟩
  · have hv := h.vval
    simp only
    refine hv.keep hk (fun x hx => ho x ?_)
    cases hq : m.valve.value with
    | none => rw [hq] at hv; rw [show vv = .slice none 0 0 from hv] at hx; simp [Value.ownBlock] at hx
    | some l => rw [hq] at hv; exact own_obj hv hx
  · exact grow_fb h.lo h.Ble hk.size x hx
theorem RHAt.toIs (h0 : RHAt B w b m F A c vv val) (h : RHAt B w1 b m1 F' A' c' vv' val') (hF : ∀ x, F' x → grow F w w1 x) (hk : Keep F w w1) : RHTo B w b m1 F w1 :=
  ⟨⟨A', c', vv', val', h.mono hF (grow_fb h0.lo h0.Ble hk.size)⟩, hk⟩
theorem RHTo.refl (h : RHIs B w b m F) : RHTo B w b m F w := by
  obtain ⟨A, c, vv, val, h⟩ := h
  exact h.toIs h (fun x hx => .inl hx) (Keep.refl _ _)
theorem RHTo.trans (h0 : RHIs B w b m F) (h1 : RHTo B w b m1 F w1) (h2 : RHTo B w1 b m2 (grow F w w1) w2) : RHTo B w b m2 F w2 := by
  obtain ⟨_, _, _, _, h0⟩ := h0
  obtain ⟨A, c, vv, val, h3⟩ := h2.is_
  have s1 := h1.keep.size
  have s2 := h2.keep.size
  refine ⟨⟨A, c, vv, val, h3.mono (grow_grow s1 s2) (grow_fb h0.lo h0.Ble (by omega))⟩, h1.keep.andThen h2.keep ?_⟩
  intro x hx hg
  rcases hg with hg | hg
  · exact hg
  · omega
/-- Behind a call that leaves alone what it did not make. -/
theorem RHTo.ofBelow (h0 : RHIs B w b m F) (hb : Below w.heap.size w w') : RHTo B w b m F w' := by
  obtain ⟨A, c, vv, val, h⟩ := h0
  exact h.toIs (h.below hb) (fun x hx => .inl hx) (Keep.of_below hb)
end
end Go.Proofs.YtfoldlbnkfnenaaGreat
/- The reference's host: latch, on. -/
namespace Go.Proofs.YtfoldlbnkfnenaaGreat
open Go.RowKit
set_option maxHeartbeats 10000000
set_option maxRecDepth 100000

theorem rhS {w : World} {b : Nat} {m : HostM} {lg vv val : Value} (h : Blk w b 96 (rhCells m lg vv val)) : w.cell? ⟨b, 16, none⟩ = some (.int .u32 m.session) ∧ w.cell? ⟨b, 17, none⟩ = some (.int .u32 m.number) := ⟨(h.cell 16).trans rfl, (h.cell 17).trans rfl⟩
theorem rhLatch_any (B b : Nat) (m : HostM) (F : Nat → Prop) (code : Int) (w : World) (hcode : code ≠ 0) (h0 : RHIs B w b m F) (hlen : m.log.length < 1073741823) :
    Calls Tryz.prog 44 #[.pointer (some ⟨b, 0, none⟩), .int .i64 code] w fun e w' => e = .returned (.tuple #[]) ∧ RHTo B w b (m.trip code) F w' := by
  obtain ⟨A, c, vv, val, hH⟩ := h0
  have hc := hH.blk.cell
  unfold rhCells at hc
  have htrip := rvTrip_any b 8 _ _ _ m.p.inn m.valve vv w code hH.valveBlk rfl hcode
  have hnone : (m.valve.trip code).1.value = none := by unfold ValveM.trip; rw [if_neg hcode]
  cases htr : (m.valve.trip code).2 with
  | false =>
    have e1 : m.trip code = { m with valve := (m.valve.trip code).1 } := by unfold HostM.trip; simp only [htr]; rfl
    rw [e1]
    rw [htr] at htrip
    clear e1
    go_enter Tryz.func44, Tryz.ntmps44
    go_wp2_with fail
    refine htrip.mono ?_
    rintro e w1 ⟨rfl, hv⟩
    go_wp2_with fail
    go_end0
    exact ⟨rfl, hH.toIs (hH.onValve hv (.inr ⟨rfl, hnone⟩)) (fun x hx => .inl hx) (hv.2.1.mono (fun x _ hx => hx ▸ hH.fb))⟩
  | true =>
    have e1 : m.trip code = { m with valve := (m.valve.trip code).1, log := noteM m.log code m.session m.number } := by unfold HostM.trip; simp only [htr]; rfl
    rw [e1]
    rw [htr] at htrip
    clear e1
    go_enter Tryz.func44, Tryz.ntmps44
    go_wp2_with fail
    refine htrip.mono ?_
    rintro e w1 ⟨rfl, hv⟩
    have h1 := (hH.onValve hv (.inr ⟨rfl, hnone⟩)).drew
    have hk1 : Keep F w w1.drew := (hv.2.1.mono (fun x _ hx => hx ▸ hH.fb)).drew
    have hb1 := h1.blk
    have hl1 := h1.logIs
    have hs1 := hv.2.2
    clear hc htrip hv
    have hc := hb1.cell
    unfold rhCells at hc
    have Hs1 := Lib.hid hs1
    clear hs1
    go_wp2_with fail
    go_region_held3 (fun w' => w'.cell? ⟨b, 16, none⟩ = some (.int .u32 m.session) ∧ w'.cell? ⟨b, 17, none⟩ = some (.int .u32 m.number)) (exact ⟨(rhS hb1).1, (rhS hb1).2⟩) (first
      | (go_at_call 53; refine (refNote_any b 5 _ _ m.log _ code m.session m.number _ hl1 hlen).mono ?_; rintro e W ⟨rfl, ⟨v, hl2⟩, hk2⟩; obtain ⟨A2, c2, h2⟩ := h1.onLog hl2 (fun x hx => hx.elim (fun hx => .inl (h1.fl x hx)) .inr) hk2; clear hb1; have hb1 := h2.blk))
    go_wp2_with fail
    go_end0
    refine ⟨rfl, hH.toIs h2 (fun x hx => grow_grow (w1 := w1.drew) hk1.size hk2.size x (hx.elim (fun hx => .inl (.inl hx)) .inr)) (hk1.andThen hk2 (fun x _ hx => hx.elim (fun hx => h1.fl x hx) (fun hx => hx ▸ hH.fb)))⟩
end Go.Proofs.YtfoldlbnkfnenaaGreat
