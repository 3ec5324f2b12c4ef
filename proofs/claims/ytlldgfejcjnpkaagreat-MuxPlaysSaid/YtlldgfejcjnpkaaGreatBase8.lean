/- The base of the laws, part 8: contracts and plain lemmas, no statement. -/
import Derived.Test.YtlldgfejcjnpkaaGreatBase2
import Derived.Test.YtlldgfejcjnpkaaGreatBase3
import Derived.Test.YtlldgfejcjnpkaaGreatBase5
import Derived.Test.YtlldgfejcjnpkaaGreatBase7
set_option linter.unusedVariables false
/- Bytes with a burst turned in them (parapethand.Burst). -/
namespace Go.Proofs.YtlldgfejcjnpkaaGreat
open Go.RowKit
set_option maxHeartbeats 10000000
set_option maxRecDepth 100000

theorem xor8 (x y : Int) : bits .xor .u8 x y = ((BitVec.ofInt 8 x ^^^ BitVec.ofInt 8 y).toNat : Int) := by
  unfold bits
  have h := (BitVec.ofInt 8 x ^^^ BitVec.ofInt 8 y).isLt
  exact IntWalk.u8_in ((BitVec.ofInt 8 x ^^^ BitVec.ofInt 8 y).toNat : Int) ⟨by omega, by omega⟩
theorem xor_byte (b v : UInt8) : bits .xor .u8 (b.toNat : Int) (v.toNat : Int) = ((b ^^^ v).toNat : Int) := by
  rw [xor8]
  have e : ∀ c : UInt8, BitVec.ofInt 8 (c.toNat : Int) = c.toBitVec := fun c => by apply BitVec.eq_of_toNat_eq; simp
  rw [e, e]
  rfl
theorem bit_at : ∀ r < 8, ((128 : UInt8) >>> UInt8.ofNat r).toNat = 128 / 2 ^ r := by decide
theorem and1_32 (x : Int) (h0 : 0 ≤ x) (h1 : x < 4294967296) : bits .and .u32 x 1 = x % 2 := bits_mask .u32 32 (by decide) (fun n a b => IntWalk.u32_in n ⟨a, by simp at b; omega⟩) 1 (by decide) x h0 h1
theorem word_bit {word : Int} (h0 : 0 ≤ word) (h1 : word < 4294967296) (k : Nat) : (bits .and .u32 (word / 2 ^ k) 1 != 0) = wbit word k := by
  have a : 0 ≤ word / 2 ^ k := Int.ediv_nonneg h0 (Int.le_of_lt (Int.pow_pos (by decide)))
  have b : word / 2 ^ k ≤ word := Int.ediv_le_self _ h0
  rw [and1_32 _ a (by omega)]
  rfl
theorem turnTo_length (word : Int) (size frm : Nat) (b : List UInt8) : ∀ k, (turnTo word size frm b k).length = b.length
  | 0 => rfl
  | k + 1 => by
    unfold turnTo
    split
    · unfold turnBit
      rw [List.length_set, turnTo_length word size frm b k]
    · exact turnTo_length word size frm b k
theorem sizeTo_le (word : Int) : ∀ k, sizeTo word k ≤ k
  | 0 => Nat.le_refl _
  | k + 1 => by
    unfold sizeTo
    split
    · exact Nat.le_refl _
    · exact Nat.le_succ_of_le (sizeTo_le word k)
theorem rem_u64 {at_ : Int} {R fr : Nat} (hR0 : 1 ≤ R) (hR : R < 17179869184) (h : fr = (at_ % 18446744073709551616).toNat % R) : wrap64 ((IntKind.u64.wrap at_).tmod (R : Int)) = (fr : Int) := by
  have e : IntKind.u64.wrap at_ = (((at_ % 18446744073709551616).toNat : Nat) : Int) := by
    rw [IntKind.wrap_u64]
    omega
  have hf : fr < R := by rw [h]; exact Nat.mod_lt _ hR0
  rw [e, Int.tmod_eq_emod_of_nonneg (Int.natCast_nonneg _), ← Int.natCast_emod, ← h]
  exact IntWalk.wrap64_in (fr : Int) ⟨by omega, by omega⟩
theorem turn_step {word : Int} {sz fr k : Nat} {l : List UInt8} (h : wbit word (sz - 1 - k) = true) (j : Nat) (hj : j = fr + k) : turnTo word sz fr l (k + 1) = (turnTo word sz fr l k).set (j / 8) (((turnTo word sz fr l k).getD (j / 8) 0) ^^^ (128 >>> UInt8.ofNat (j % 8))) := by
  subst hj
  show (if _ then _ else _) = _
  rw [h, if_pos rfl]
  rfl
theorem turn_skip {word : Int} {sz fr k : Nat} {l : List UInt8} (h : wbit word (sz - 1 - k) = false) : turnTo word sz fr l (k + 1) = turnTo word sz fr l k := by
  show (if _ then _ else _) = _
  rw [h, if_neg (by decide)]
theorem burst_any (A : Option Addr) (n c B : Nat) (l : List UInt8) (at_ word : Int) (w : World) (hr : Reads w B 1 A n (u8c l)) (hB : B ≤ w.heap.size) (hn : n < 1073741824) (hw0 : 0 ≤ word ∧ word < 4294967296) :
    Calls Tryz.prog 54 #[.slice A n c, .int .i64 at_, .int .u32 word] w fun e w' => ∃ v, e = .returned (.tuple #[v, .bool (burstM l at_ word).isSome]) ∧ (burstM l at_ word = none → v = .slice none 0 0) ∧ (∀ b, burstM l at_ word = some b → w'.ownsRow w.heap.size 5 1 v b.length (u8c b)) ∧ Below w.heap.size w w' := by
  have hl : l.length = n := by have := hr.1; simpa [u8c] using this
  have Hl := Lib.hid hl
  obtain ⟨r, Hr⟩ : ∃ r, Hid (r = burstM l at_ word) := ⟨_, Lib.hid rfl⟩
  rw [← Hr.out]
  clear hl
  have hwb := fun k => word_bit hw0.1 hw0.2 k
  have Hwb := Lib.hid hwb
  clear hwb
  go_enter Tryz.func54, Tryz.ntmps54
  go_wp2_with fail
  go_loopg [8, 9] 32 (fun q v8 v9 wr => ∃ (k : Nat), k + q = 32 ∧ v9 = .int .i64 k ∧ v8 = .int .i64 (sizeTo word k : Nat) ∧ wr = w)
  case atStart => exact ⟨0, rfl, rfl, rfl, rfl⟩
  case round =>
    obtain ⟨k, hq, rfl, rfl, rfl⟩ := hrel
    have hg := Hwb.out k
    have Hs : Hid (sizeTo word (k + 1) = if wbit word k then k + 1 else sizeTo word k) := Lib.hid rfl
    by_cases hk : k < 32
    · cases hbk : wbit word k with
      | true =>
        rw [hbk] at hg Hs
        go_wp2_with fail
        go_roundg (32 - (k + 1))
        case measure => omega
        case rel => exact ⟨k + 1, by omega, by go_num, by rw [show sizeTo word (k + 1) = k + 1 by rw [Hs.out]; rfl]; go_num, rfl⟩
      | false =>
        rw [hbk] at hg Hs
        go_wp2_with fail
        go_roundg (32 - (k + 1))
        case measure => omega
        case rel => exact ⟨k + 1, by omega, by go_num, by rw [show sizeTo word (k + 1) = sizeTo word k by rw [Hs.out]; rfl], rfl⟩
    · obtain rfl : k = 32 := by omega
      clear hg Hs
      obtain ⟨W0, rfl⟩ : ∃ W : World, W = wr := ⟨_, rfl⟩
      have hsz := sizeTo_le word 32
      have Hb : Hid (burstM l at_ word = if sizeTo word 32 = 0 ∨ 8 * l.length < sizeTo word 32 then none else some (turnTo word (sizeTo word 32) ((at_ % 18446744073709551616).toNat % (8 * l.length - sizeTo word 32 + 1)) l (sizeTo word 32))) := Lib.hid rfl
      generalize sizeTo word 32 = sz at *
      have hln := Hl.out
      by_cases z1 : sz = 0
      · have hrn : r = none := by rw [Hr.out, Hb.out, if_pos (.inl z1)]
        subst hrn
        have gz : ((sz : Int) == 0) = true := by simpa using z1
        clear z1 hln
        go_wp2_with fail
        refine bodyPost_ret (v := .tuple #[.slice none 0 0, .bool false]) (by simp [results, Tryz.results54, go_sem]) rfl ⟨_, rfl, rfl, Below.refl _ _⟩
      have gz : ((sz : Int) == 0) = false := by simpa using z1
      by_cases z2 : 8 * n < sz
      · have hrn : r = none := by rw [Hr.out, Hb.out, if_pos (.inr (by omega))]
        subst hrn
        clear z1 hln
        go_wp2_with fail
        refine bodyPost_ret (v := .tuple #[.slice none 0 0, .bool false]) (by simp [results, Tryz.results54, go_sem]) rfl ⟨_, rfl, rfl, Below.refl _ _⟩
      obtain ⟨R, hR⟩ : ∃ R : Nat, 8 * n - sz + 1 = R := ⟨_, rfl⟩
      have hR1 : (8 : Int) * n - sz + 1 = (R : Int) := by omega
      have hR0 : 1 ≤ R := by omega
      obtain ⟨fr, Hfr⟩ : ∃ fr, Hid (fr = (at_ % 18446744073709551616).toNat % R) := ⟨_, Lib.hid rfl⟩
      have hfr : fr < R := by rw [Hfr.out]; exact Nat.mod_lt _ hR0
      have Hrs : Hid (r = some (turnTo word sz fr l sz)) := Lib.hid (by rw [Hr.out, Hb.out, if_neg (by omega), hln, hR, Hfr.out])
      have HR := Lib.hid hR
      clear hR hln Hb Hr
      have hrem := rem_u64 hR0 (by omega) Hfr.out
      obtain ⟨i0, hi0, hz0, hz1, hz2⟩ := info_parts byte_info
      go_wp2_with (at_builtin; refine wpList_append_any _ rfl (.tmp 44) (.tmp 45) _ rfl W0.heap.size 5 i0 _ 1 1 Tryz.underlying22 hi0 hz0 hz1 hz2 rfl (by omega) (.slice (some ⟨W0.heap.size, 0, none⟩) 0 0) 0 [] rfl (World.ownsRow_made W0 #[] 0 (Nat.le_refl _) (by unfold maxLen; omega) rfl) B A n c (u8c l) rfl (hr.alloc hB _) (u8c_one l) (by unfold maxLen; omega) (by omega) (by simp) ?_; intro v1 w1 hown1 hg1 hat1; rw [Nat.zero_add, List.nil_append] at hown1; obtain ⟨A1, c1, rfl⟩ := own_slice hown1)
      have hb1 := ((Below.refl W0.heap.size W0).alloc (Nat.le_refl _) (.cells #[] 5)).grown hg1 (by simp) (fun k hk => by simp [Value.ownBlock] at hk; omega)
      obtain ⟨g, rfl⟩ := own_some hown1 (by omega)
      have hgl := (hown1.lt g rfl)
      clear hg1 hat1 hrem
      have HrsF := Hrs
      clear Hrs
      go_wp2_with fail
      go_loopg [13, 14] sz (fun q v13 _v14 wl => ∃ (k : Nat), k + q = sz ∧ v13 = .int .i64 k ∧ wl.ownsRow W0.heap.size 5 1 (.slice (some ⟨g, 0, none⟩) n c1) n (u8c (turnTo word sz fr l k)) ∧ Below W0.heap.size W0 wl)
      case atStart => exact ⟨0, by omega, rfl, hown1, hb1⟩
      case round =>
        obtain ⟨k, hq2, e13, hown2, hb2⟩ := hrel
        subst e13
        by_cases hks : k < sz
        · have hg := Hwb.out (sz - 1 - k)
          have hsh : (sz : Int) - 1 - (k : Int) = ((sz - 1 - k : Nat) : Int) := by omega
          have HR1 := HR.out
          obtain ⟨j, hj⟩ : ∃ j : Nat, j = fr + k := ⟨_, rfl⟩
          have hj1 : (fr : Int) + (k : Int) = (j : Int) := by omega
          have hj8 : j / 8 < n := by omega
          have Hj := Lib.hid hj
          have Hj8 := Lib.hid hj8
          have Hhg := Lib.hid hg
          clear hg hj hj8 HR1
          cases hbk : wbit word (sz - 1 - k) with
          | true =>
            have hts := turn_step (fr := fr) (l := l) hbk j Hj.out
            have Hts := Lib.hid hts
            rw [hbk] at Hhg
            have hg := Hhg.out
            have hcell : wr.cell? ⟨g, j / 8, none⟩ = some (.int .u8 (((turnTo word sz fr l k).getD (j / 8) 0).toNat : Int)) := by have h := (Reads.of_own hown2).byte (j / 8) Hj8.out; have e : (⟨g, 0, none⟩ : Addr).add (j / 8) = ⟨g, j / 8, none⟩ := (by by_cases h : j / 8 = 0 <;> simp [Addr.add, h]); rw [e] at h; exact h
            have hfz := (own_at (k := j / 8) hown2).1
            have hj1' : j = fr + k := Hj.out
            have hjlt : j < 8 * n := by have := HR.out; omega
            have hdiv : (j : Int).tdiv 8 = ((j / 8 : Nat) : Int) := by rw [Int.tdiv_eq_ediv_of_nonneg (Int.natCast_nonneg _)]; rfl
            have hmod : (j : Int).tmod 8 = ((j % 8 : Nat) : Int) := by rw [Int.tmod_eq_emod_of_nonneg (Int.natCast_nonneg _)]; rfl
            have hxb := xor_byte ((turnTo word sz fr l k).getD (j / 8) 0) ((128 : UInt8) >>> UInt8.ofNat (j % 8))
            rw [bit_at (j % 8) (Nat.mod_lt _ (by decide)), show ((128 / 2 ^ (j % 8) : Nat) : Int) = 128 / 2 ^ (j % 8) by simp] at hxb
            have hb3 : Below W0.heap.size W0 (wr.setCell ⟨g, j / 8, none⟩ (.int .u8 ((((turnTo word sz fr l k).getD (j / 8) 0) ^^^ ((128 : UInt8) >>> UInt8.ofNat (j % 8))).toNat : Int))) := hb2.setCell hgl.1 _
            have hown3 := own_set1 hown2 (j / 8) (.int .u8 ((((turnTo word sz fr l k).getD (j / 8) 0) ^^^ ((128 : UInt8) >>> UInt8.ofNat (j % 8))).toNat : Int))
            have hset : (u8c (turnTo word sz fr l k)).set (j / 8) (.int .u8 ((((turnTo word sz fr l k).getD (j / 8) 0) ^^^ ((128 : UInt8) >>> UInt8.ofNat (j % 8))).toNat : Int)) = u8c (turnTo word sz fr l (k + 1)) := by rw [Hts.out]; simp [u8c, List.map_set]
            rw [hset] at hown3
            have Hown3 := Lib.hid hown3
            have Hb3 := Lib.hid hb3
            generalize (turnTo word sz fr l k).getD (j / 8) 0 = x at *
            generalize (128 : UInt8) >>> UInt8.ofNat (j % 8) = y at *
            have hjn : ((j / 8 : Nat) : Int) < (n : Int) := by have := Hj8.out; omega
            have hj0 : (0 : Int) ≤ ((j / 8 : Nat) : Int) := Int.natCast_nonneg _
            clear hts hbk hown3 hb3 hset Hts hj1'
            have hmn : min (j % 8) 8 = j % 8 := Nat.min_eq_left (by have := Nat.mod_lt j (show 0 < 8 by decide); omega)
            have Hmn := Lib.hid hmn
            have Hxb := Lib.hid hxb
            clear hmn hxb
            generalize j / 8 = j8 at *
            generalize j % 8 = jr at *
            go_wp2_with fail
            go_region
            rw [Hmn.out, Hxb.out]
            go_wp2_with fail
            go_roundg (sz - (k + 1))
            case measure => omega
            case rel => exact ⟨k + 1, by omega, by go_num, Hown3.out, Hb3.out.drew⟩
          | false =>
            have hts := turn_skip (fr := fr) (l := l) hbk
            have Hts := Lib.hid hts
            rw [hbk] at Hhg
            have hg := Hhg.out
            clear hts hbk
            go_wp2_with fail
            go_roundg (sz - (k + 1))
            case measure => omega
            case rel => exact ⟨k + 1, by omega, by go_num, by rw [Hts.out]; exact hown2, hb2⟩
        · obtain rfl : k = sz := by omega
          have hrs := HrsF.out
          subst hrs
          go_wp2_with fail
          refine bodyPost_ret (v := .tuple #[.slice (some ⟨g, 0, none⟩) n c1, .bool true]) (by simp [results, Tryz.results54, go_sem]) rfl ⟨_, rfl, ?_, hb2⟩
          rw [turnTo_length, Hl.out]
          exact hown2
theorem burst_length {b x : List UInt8} {at_ word : Int} (h : burstM b at_ word = some x) : x.length = b.length := by
  unfold burstM at h
  simp only at h
  split at h
  · cases h
  · injection h with h
    subst h
    exact turnTo_length _ _ _ _ _
theorem addU_ok (a b : Int) : 0 ≤ addU a b ∧ addU a b < 4294967296 := by unfold addU; omega
theorem addU_wrap (a b : Int) : IntKind.u32.wrap (a + IntKind.u32.wrap b) = addU a b := by
  rw [IntKind.wrap_u32, IntKind.wrap_u32]
  unfold addU
  omega
theorem encode_small (u : UnitM) : u.encode.length ≤ 1000 := by
  unfold UnitM.encode
  split
  · rename_i h
    have := UnitM.lawful_len h
    simp [sealM, UnitM.body, wordBytes, wordOf]
    omega
  · simp
end Go.Proofs.YtlldgfejcjnpkaaGreat
/- How a row opens a list of calls (a slice of structs of seven fields, one of them a slice of bytes): read as a list of ops. -/
namespace Go.Proofs.YtlldgfejcjnpkaaGreat
open Go.ChangeShapes Go.WideShapes Go.RowKit Go.Deep

/-- The cells of an op. -/
def opCells (o : OpM) (x : Value) : Array Value := #[.int .i64 o.kind, .int .i64 o.n, .int .i64 o.flags, .bool o.odd, x, .int .i64 o.at_, .int .u32 o.word]
/-- Op i of a list in memory, its data among what is below B. -/
def OpAt (w : World) (B : Nat) (ad : Addr) (i : Nat) (o : OpM) : Prop :=
  o.Ok ∧ o.data.length ≤ 140737488351232 ∧ ∃ D c, (∀ j u, (opCells o (.slice D o.data.length c))[j]? = some u → w.cell? (ad.add (i * 7 + j)) = some u) ∧ Reads w B 1 D o.data.length (u8c o.data) ∧ o.data.length ≤ c ∧ (D = none → o.data.length = 0)
/-- A list of ops in memory. -/
def OpsAt (w : World) (B : Nat) (A : Option Addr) (n : Nat) (l : List OpM) : Prop := l.length = n ∧ (0 < n → ∃ ad, A = some ad ∧ ad.block < B ∧ ∀ i o, l[i]? = some o → OpAt w B ad i o)
theorem OpAt.below {w w' : World} {B : Nat} {ad : Addr} {i : Nat} {o : OpM} (h : OpAt w B ad i o) (hb : Below B w w') (ha : ad.block < B) : OpAt w' B ad i o := by
  obtain ⟨h1, h2, D, c, h3, h4, h5⟩ := h
  exact ⟨h1, h2, D, c, fun j u hu => (hb.cell (by rw [block_of_add]; exact ha)).trans (h3 j u hu), h4.below hb, h5⟩
theorem OpsAt.below {w w' : World} {B n : Nat} {A : Option Addr} {l : List OpM} (h : OpsAt w B A n l) (hb : Below B w w') : OpsAt w' B A n l := by
  refine ⟨h.1, fun hn => ?_⟩
  obtain ⟨ad, e, ha, h3⟩ := h.2 hn
  exact ⟨ad, e, ha, fun i o ho => (h3 i o ho).below hb ha⟩

theorem addr7 (ad : Addr) (k j : Nat) (hj : j ≠ 0) : ad.add (k * 7 + j) = ⟨(ad.add (k * 7)).block, (ad.add (k * 7)).off + j, none⟩ := by
  rw [← add_of_add]
  generalize ad.add (k * 7) = y
  unfold Addr.add
  rw [if_neg hj]
/-- One op of the list, as a walk wants it. -/
theorem ops_at {w : World} {B n : Nat} {A : Option Addr} {l : List OpM} (h : OpsAt w B A n l) {k : Nat} (hk : k < n) : ∃ ad o D c, A = some ad ∧ l[k]? = some o ∧
    (w.cell? (ad.add (k * 7)) = some (.int .i64 o.kind) ∧ w.cell? ⟨(ad.add (k * 7)).block, (ad.add (k * 7)).off + 1, none⟩ = some (.int .i64 o.n) ∧ w.cell? ⟨(ad.add (k * 7)).block, (ad.add (k * 7)).off + 2, none⟩ = some (.int .i64 o.flags) ∧
      w.cell? ⟨(ad.add (k * 7)).block, (ad.add (k * 7)).off + 3, none⟩ = some (.bool o.odd) ∧ w.cell? ⟨(ad.add (k * 7)).block, (ad.add (k * 7)).off + 4, none⟩ = some (.slice D o.data.length c) ∧
      w.cell? ⟨(ad.add (k * 7)).block, (ad.add (k * 7)).off + 5, none⟩ = some (.int .i64 o.at_) ∧ w.cell? ⟨(ad.add (k * 7)).block, (ad.add (k * 7)).off + 6, none⟩ = some (.int .u32 o.word)) ∧
    o.Ok ∧ Reads w B 1 D o.data.length (u8c o.data) ∧ o.data.length ≤ c ∧ o.data.length ≤ 140737488351232 ∧ ad.block < B := by
  obtain ⟨ad, hA, hb, hall⟩ := h.2 (by omega)
  have hkl : k < l.length := by rw [h.1]; exact hk
  obtain ⟨o, ho⟩ : ∃ o, l[k]? = some o := ⟨_, List.getElem?_eq_getElem hkl⟩
  obtain ⟨h1, h2, D, c, h3, h4, h5, _⟩ := hall k o ho
  refine ⟨ad, o, D, c, hA, ho, ⟨h3 0 _ rfl, ?_, ?_, ?_, ?_, ?_, ?_⟩, h1, h4, h5, h2, hb⟩
  · rw [← addr7 ad k 1 (by omega)]; exact h3 1 _ rfl
  · rw [← addr7 ad k 2 (by omega)]; exact h3 2 _ rfl
  · rw [← addr7 ad k 3 (by omega)]; exact h3 3 _ rfl
  · rw [← addr7 ad k 4 (by omega)]; exact h3 4 _ rfl
  · rw [← addr7 ad k 5 (by omega)]; exact h3 5 _ rfl
  · rw [← addr7 ad k 6 (by omega)]; exact h3 6 _ rfl

section
variable {H : Type} {enc : TypeId × Value → H} {P : Program} {W : World} {base : Nat} {spare : Nat → Bool} {held : Bool}
theorem weightsAll_mem {e : TypeId} {d : DataW H} : ∀ {l : List (DataW H)}, d ∈ l → ∀ n ∈ d.weights P e, n ∈ DataW.weightsAll P e l
  | x :: l, hd, n, hn => by
    simp only [DataW.weightsAll, List.mem_append]
    rcases List.mem_cons.1 hd with rfl | hd
    · exact .inl hn
    · exact .inr (weightsAll_mem hd n hn)
theorem reads_ops {t e te : TypeId} {f0 f1 f2 f3 f4 f5 f6 : Field} {a : Option Addr} {len cap : Nat} {d : DataW H} {ps : List MemPlace} {ts : List TypeId} {ds : List (DataW H)} {jj : Nat}
    (hsz : (DataW.weightsEach P ts ds).all (· ≤ reachBytes) = true) (ht : ts[jj]? = some t) (hd : ds[jj]? = some d)
    (hu : P.underlying t = some (.slice e)) (he : P.underlying e = some (.struct #[f0, f1, f2, f3, f4, f5, f6])) (hc : P.cellsOf e = 7)
    (h0 : P.underlying f0.type = some (.int .i64)) (h1 : P.underlying f1.type = some (.int .i64)) (h2 : P.underlying f2.type = some (.int .i64)) (h3 : P.underlying f3.type = some .bool)
    (h4 : P.underlying f4.type = some (.slice te)) (h4e : P.underlying te = some (.int .u8)) (h4c : P.cellsOf te = 1) (h4b : P.bytesOf te = 1) (h5 : P.underlying f5.type = some (.int .i64)) (h6 : P.underlying f6.type = some (.int .u32))
    (o0 : f0.offset = 0 ∧ f1.offset = 1 ∧ f2.offset = 2 ∧ f3.offset = 3 ∧ f4.offset = 4 ∧ f5.offset = 5 ∧ f6.offset = 6)
    (c0 : P.cellsOf f0.type = 1 ∧ P.cellsOf f1.type = 1 ∧ P.cellsOf f2.type = 1 ∧ P.cellsOf f3.type = 1 ∧ P.cellsOf f4.type = 1 ∧ P.cellsOf f5.type = 1 ∧ P.cellsOf f6.type = 1)
    (h : DataW.Trod enc P W base spare held t (.slice a len cap) d ps) :
    ∃ l : List OpM, OpsAt W W.heap.size a len l := by
  obtain ⟨fuel, hf⟩ := h
  rcases Go.Deep.open_slice hu hf with ⟨hcs, _⟩ | ⟨x, l, c, m, n, D, Pl, hcs, _, hl, _, hm, hx, heach⟩
  · simp [Value.cells] at hcs
    obtain ⟨rfl, rfl, rfl⟩ := hcs
    exact ⟨[], rfl, fun h => absurd h (by omega)⟩
  · simp [Value.cells] at hcs
    obtain ⟨rfl, rfl, rfl⟩ := hcs
    have hlm : len ≤ m := by rw [hm]; split <;> omega
    obtain ⟨hxd, _⟩ := Prod.mk.inj hx
    have each : ∀ i, ∃ o : OpM, i < len → OpAt W W.heap.size x i o := by
      intro i
      by_cases hi : i < len
      · obtain ⟨cs, h7, htr⟩ := heach i (by omega)
        have hblk := World.cells?_block h7 (by rw [hc]; omega)
        rw [hc] at h7
        obtain ⟨_, hlen, hcell⟩ := World.cells?_some h7
        obtain ⟨y0, y1, y2, y3, y4, y5, y6, k, hD, _, t0, t1, t2, t3, t4, t5, t6⟩ := trod_struct7 he htr
        obtain ⟨a0, a1, a2, a3, a4, a5, a6⟩ := o0
        obtain ⟨b0, b1, b2, b3, b4, b5, b6⟩ := c0
        rw [a0, b0] at t0
        rw [a1, b1] at t1
        rw [a2, b2] at t2
        rw [a3, b3] at t3
        rw [a4, b4] at t4
        rw [a5, b5] at t5
        rw [a6, b6] at t6
        match cs, hlen with
        | [v0, v1, v2, v3, v4, v5, v6], _ =>
          obtain ⟨z0, e0, _, w0⟩ := DataW.trod_int h0 t0
          obtain ⟨z1, e1, _, w1⟩ := DataW.trod_int h1 t1
          obtain ⟨z2, e2, _, w2⟩ := DataW.trod_int h2 t2
          obtain ⟨z3, e3, _⟩ := DataW.trod_bool h3 t3
          obtain ⟨z5, e5, _, w5⟩ := DataW.trod_int h5 t5
          obtain ⟨z6, e6, _, w6⟩ := DataW.trod_int h6 t6
          simp at e0 e1 e2 e3 e5 e6
          subst e0 e1 e2 e3 e5 e6
          have t4' : DataW.trod enc P W base spare held k f4.type [v4] = some y4 := by simpa using t4
          obtain ⟨A4, n4, c4, rfl⟩ : ∃ A n c, v4 = .slice A n c := by
            rcases Go.Deep.open_slice h4 t4' with ⟨h, _⟩ | ⟨x', l', c', _, _, _, _, h, _⟩
            · simp at h; exact ⟨_, _, _, h⟩
            · simp at h; exact ⟨_, _, _, h⟩
          have ht4 : DataW.Trod enc P W base spare held f4.type (.slice A4 n4 c4) y4.1 y4.2 := ⟨k, by simpa [Value.cells] using t4'⟩
          obtain ⟨zs, zl, hr, wz, hle, _, hnn⟩ := reads_ints h4 h4e h4c ht4
          have hbl : (bytesOf zs).length = n4 := by simp [bytesOf, zl]
          have hbig : n4 ≤ 140737488351232 := by
            rcases Go.Deep.open_slice h4 t4' with ⟨h, _⟩ | ⟨x', l', c', m', _, D', _, h, _, hl', _, hm', hx', _⟩
            · simp at h; omega
            · simp at h
              obtain ⟨rfl, rfl, rfl⟩ := h
              have hy4 : y4.1 = .slice ((List.range n4).map D') ((List.range (m' - n4)).map fun j => D' (n4 + j)) := (Prod.mk.inj hx').1
              have hmem : D i ∈ (List.range len).map D := List.mem_map.2 ⟨i, List.mem_range.2 hi, rfl⟩
              have hDi : D i = .agg [y0.1, y1.1, y2.1, y3.1, y4.1, y5.1, y6.1] := (Prod.mk.inj hD).1
              have hw : (((List.range n4).map D').length + ((List.range (m' - n4)).map fun j => D' (n4 + j)).length) * P.bytesOf te ∈ DataW.weightsEach P ts ds := by
                refine DataW.weights_mem_each ht hd _ ?_
                rw [hxd]
                simp only [DataW.weights, hu, List.mem_cons, List.mem_append]
                refine .inr (.inl (weightsAll_mem hmem _ ?_))
                rw [hDi]
                simp only [DataW.weights, he]
                refine DataW.weights_mem_each (j := 4) (t := f4.type) rfl (d := y4.1) rfl _ ?_
                rw [hy4]
                simp [DataW.weights, h4]
              have := List.all_eq_true.1 hsz _ hw
              rw [h4b] at this
              simp [reachBytes] at this
              omega
          refine ⟨⟨z0, z1, z2, z3, bytesOf zs, z5, z6⟩, fun _ => ⟨⟨?_, wf_u32 w6, ?_⟩, by simp only [hbl]; exact hbig, A4, c4, ?_, ?_, ?_, ?_⟩⟩
          · have := wf_i64 w5; exact ⟨this.1, by simp only; omega⟩
          · have := wf_i64 w1; exact ⟨this.1, by simp only; omega⟩
          · intro j u hu'
            have hj : j < 7 := (Array.getElem?_eq_some_iff.1 hu').1
            rw [← add_of_add, hcell j hj]
            simp only [hbl] at hu'
            simpa [opCells] using hu'
          · simp only [hbl]
            exact reads_bytes hr wz
          · simp only [hbl]; exact hle
          · intro hA
            simp only [hbl]
            have := hnn hA
            omega
      · exact ⟨⟨0, 0, 0, false, [], 0, 0⟩, fun h => absurd h hi⟩
    refine ⟨(List.range len).map (fun i => Classical.choose (each i)), by simp, fun hn => ⟨x, rfl, ?_, ?_⟩⟩
    · obtain ⟨cs, h7, _⟩ := heach 0 (by omega)
      have := World.cells?_block h7 (by rw [hc]; omega)
      rwa [block_of_add] at this
    · intro i o ho
      have hi : i < len := by
        have := (List.getElem?_eq_some_iff.1 ho).1
        simpa using this
      rw [List.getElem?_map, List.getElem?_range hi] at ho
      simp only [Option.map_some, Option.some.injEq] at ho
      rw [← ho]
      exact Classical.choose_spec (each i) hi
end
end Go.Proofs.YtlldgfejcjnpkaaGreat
