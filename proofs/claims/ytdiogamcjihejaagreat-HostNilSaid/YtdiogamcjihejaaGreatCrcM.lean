/- The cyclic check by bits: plain. -/
import Derived.ProofKit
namespace Go.Proofs.YtdiogamcjihejaaGreat

/-- One bit is shifted out. -/
def crcZ (r : BitVec 32) : BitVec 32 := (r <<< 1) ^^^ (if r.msb then 0x1edc6f41#32 else 0#32)
/-- n bits are shifted out. -/
def crcZn : Nat → BitVec 32 → BitVec 32
  | 0, r => r
  | n + 1, r => crcZn n (crcZ r)
/-- A byte. -/
def crcByte (s : BitVec 32) (c : UInt8) : BitVec 32 := crcZn 8 (s ^^^ (c.toBitVec.setWidth 32 <<< 24))
/-- Bytes. -/
def crcOf (s : BitVec 32) (l : List UInt8) : BitVec 32 := l.foldl crcByte s
/-- The four bytes of a word. -/
def wordOf (s : BitVec 32) : List UInt8 := [⟨(s >>> 24).setWidth 8⟩, ⟨(s >>> 16).setWidth 8⟩, ⟨(s >>> 8).setWidth 8⟩, ⟨s.setWidth 8⟩]
/-- Sealed. -/
def sealM (l : List UInt8) : List UInt8 := l ++ wordOf (crcOf 0#32 l)
/-- The word of four bytes. -/
def ofWord (a b c d : UInt8) : BitVec 32 := (a.toBitVec.setWidth 32 <<< 24) ^^^ (b.toBitVec.setWidth 32 <<< 16) ^^^ (c.toBitVec.setWidth 32 <<< 8) ^^^ d.toBitVec.setWidth 32

theorem crcZ_zero : crcZ 0#32 = 0#32 := by decide
theorem crcZ_xor (a b : BitVec 32) : crcZ (a ^^^ b) = crcZ a ^^^ crcZ b := by
  unfold crcZ
  rw [BitVec.msb_xor, BitVec.shiftLeft_xor_distrib]
  have lc : ∀ x y z : BitVec 32, x ^^^ (y ^^^ z) = y ^^^ (x ^^^ z) := fun x y z => by rw [← BitVec.xor_assoc, BitVec.xor_comm x y, BitVec.xor_assoc]
  cases a.msb <;> cases b.msb <;> simp [BitVec.xor_assoc, lc, BitVec.xor_comm]
theorem crcZn_xor (n : Nat) (a b : BitVec 32) : crcZn n (a ^^^ b) = crcZn n a ^^^ crcZn n b := by
  induction n generalizing a b with
  | zero => rfl
  | succ n ih => rw [crcZn, crcZn, crcZn, crcZ_xor, ih]
theorem crcZn_add (m n : Nat) (a : BitVec 32) : crcZn (m + n) a = crcZn n (crcZn m a) := by
  induction m generalizing a with
  | zero => rw [Nat.zero_add]; rfl
  | succ m ih => rw [Nat.add_right_comm, crcZn, ih]; rfl
theorem crcZn_succ (n : Nat) (a : BitVec 32) : crcZ (crcZn n a) = crcZn n (crcZ a) := (crcZn_add n 1 a).symm.trans (by rw [Nat.add_comm, crcZn_add]; rfl)
theorem crcZ_inj (a : BitVec 32) (h : crcZ a = 0#32) : a = 0#32 := by
  unfold crcZ at h
  cases hm : a.msb with
  | true =>
    have h0 := congrArg (fun x => BitVec.getLsbD x 0) h
    simp [hm] at h0
  | false =>
    rw [hm] at h
    have h1 := congrArg BitVec.toNat h
    have h2 := BitVec.msb_eq_decide a
    rw [hm] at h2
    simp at h1 h2
    apply BitVec.eq_of_toNat_eq
    simp
    have := a.isLt
    omega
theorem crcZn_inj (n : Nat) (a : BitVec 32) (h : crcZn n a = 0#32) : a = 0#32 := by
  induction n generalizing a with
  | zero => exact h
  | succ n ih => exact crcZ_inj a (ih _ h)

/-- A bit at the foot. -/
def bit0 (b : Bool) : BitVec 32 := if b then 1#32 else 0#32
/-- By definition: bits come in at the foot. -/
def crcDef (r : BitVec 32) (l : List Bool) : BitVec 32 := l.foldl (fun r b => crcZ r ^^^ bit0 b) r
/-- A byte's bits, the highest first. -/
def bitsOf (c : UInt8) : List Bool := [c.toBitVec.getLsbD 7, c.toBitVec.getLsbD 6, c.toBitVec.getLsbD 5, c.toBitVec.getLsbD 4, c.toBitVec.getLsbD 3, c.toBitVec.getLsbD 2, c.toBitVec.getLsbD 1, c.toBitVec.getLsbD 0]
theorem crcDef_append (r : BitVec 32) (l m : List Bool) : crcDef r (l ++ m) = crcDef (crcDef r l) m := by simp [crcDef]
theorem crcDef_zeros (n : Nat) (r : BitVec 32) : crcDef r (List.replicate n false) = crcZn n r := by
  induction n generalizing r with
  | zero => rfl
  | succ n ih =>
    have : crcDef r (List.replicate (n + 1) false) = crcDef (crcZ r ^^^ 0#32) (List.replicate n false) := rfl
    rw [this, ih, BitVec.xor_zero]
    rfl
theorem crcDef_lin (r s : BitVec 32) (l : List Bool) : crcDef (r ^^^ s) l = crcZn l.length r ^^^ crcDef s l := by
  induction l generalizing r s with
  | nil => rfl
  | cons b l ih =>
    have e1 : crcDef (r ^^^ s) (b :: l) = crcDef (crcZ (r ^^^ s) ^^^ bit0 b) l := rfl
    have e2 : crcDef s (b :: l) = crcDef (crcZ s ^^^ bit0 b) l := rfl
    rw [e1, e2, crcZ_xor, BitVec.xor_assoc, ih]
    rfl
theorem bits_all : (List.range 256).all (fun n => crcZn 8 ((UInt8.ofNat n).toBitVec.setWidth 32 <<< 24) == crcZn 32 (crcDef 0#32 (bitsOf (UInt8.ofNat n)))) = true := by
  kernel_rfl
theorem bits_one (c : UInt8) : crcZn 8 (c.toBitVec.setWidth 32 <<< 24) = crcZn 32 (crcDef 0#32 (bitsOf c)) := by
  have h := List.all_eq_true.1 bits_all c.toNat (List.mem_range.2 c.toNat_lt)
  rw [UInt8.ofNat_toNat] at h
  exact eq_of_beq h
theorem crcByte_def (r : BitVec 32) (c : UInt8) : crcByte (crcZn 32 r) c = crcZn 32 (crcDef r (bitsOf c)) := by
  have h := crcDef_lin r 0#32 (bitsOf c)
  rw [BitVec.xor_zero] at h
  rw [h, crcZn_xor]
  unfold crcByte
  rw [crcZn_xor, bits_one, ← crcZn_add, ← crcZn_add]
  rfl
theorem crcOf_def (r : BitVec 32) (l : List UInt8) : crcOf (crcZn 32 r) l = crcZn 32 (crcDef r (l.flatMap bitsOf)) := by
  induction l generalizing r with
  | nil => rfl
  | cons c l ih =>
    have : crcOf (crcZn 32 r) (c :: l) = crcOf (crcByte (crcZn 32 r) c) l := rfl
    rw [this, crcByte_def, ih, List.flatMap_cons, crcDef_append]
/-- The check by definition is the check by bytes. -/
theorem crc_same (l : List UInt8) : crcDef 0#32 ((l ++ [0, 0, 0, 0]).flatMap bitsOf) = crcOf 0#32 l := by
  have h0 : crcZn 32 0#32 = 0#32 := by kernel_rfl
  have h := crcOf_def 0#32 l
  rw [h0] at h
  rw [h, List.flatMap_append, crcDef_append]
  exact crcDef_zeros 32 _

theorem shl_z (n : Nat) (x : BitVec 8) : n ≤ 2 → crcZn 8 (x.setWidth 32 <<< (8 * n)) = x.setWidth 32 <<< (8 * n + 8) := by
  intro hn
  have key : ∀ (k m : Nat), m + k ≤ 24 → crcZn k (x.setWidth 32 <<< m) = x.setWidth 32 <<< (m + k) := by
    intro k
    induction k with
    | zero => intro m _; rfl
    | succ k ih =>
      intro m hm
      have hmsb : (x.setWidth 32 <<< m).msb = false := by
        rw [BitVec.msb_eq_getLsbD_last]
        simp
        intro h1
        apply BitVec.getLsbD_of_ge
        omega
      have hz : crcZ (x.setWidth 32 <<< m) = x.setWidth 32 <<< (m + 1) := by
        unfold crcZ
        rw [hmsb]
        simp [BitVec.shiftLeft_add]
      rw [crcZn, hz, ih (m + 1) (by omega)]
      congr 1
      omega
  have := key 8 (8 * n) (by omega)
  exact this
theorem crcOf_four (s : BitVec 32) (a b c d : UInt8) : crcOf s [a, b, c, d] = crcZn 32 (s ^^^ ofWord a b c d) := by
  have e : crcOf s [a, b, c, d] = crcByte (crcByte (crcByte (crcByte s a) b) c) d := rfl
  have hb := shl_z 2 b.toBitVec (by omega)
  have hc1 := shl_z 1 c.toBitVec (by omega)
  have hc2 := shl_z 2 c.toBitVec (by omega)
  have hd0 := shl_z 0 d.toBitVec (by omega)
  have hd1 := shl_z 1 d.toBitVec (by omega)
  have hd2 := shl_z 2 d.toBitVec (by omega)
  simp only [Nat.mul_zero, Nat.zero_add, Nat.reduceMul, Nat.reduceAdd, BitVec.shiftLeft_zero] at hb hc1 hc2 hd0 hd1 hd2
  rw [e]
  unfold crcByte ofWord
  rw [← hb, ← hc2, ← hc1, ← hd2, ← hd1, ← hd0]
  have e4 : ∀ x : BitVec 32, crcZn 32 x = crcZn 8 (crcZn 8 (crcZn 8 (crcZn 8 x))) := fun x => by rw [← crcZn_add, ← crcZn_add, ← crcZn_add]
  rw [e4]
  simp only [crcZn_xor, BitVec.xor_assoc]
theorem ofWord_wordOf (s : BitVec 32) : ofWord ⟨(s >>> 24).setWidth 8⟩ ⟨(s >>> 16).setWidth 8⟩ ⟨(s >>> 8).setWidth 8⟩ ⟨s.setWidth 8⟩ = s := by
  apply BitVec.eq_of_getLsbD_eq
  intro i hi
  unfold ofWord
  simp only [BitVec.getLsbD_xor, BitVec.getLsbD_shiftLeft, BitVec.getLsbD_setWidth, BitVec.getLsbD_ushiftRight]
  by_cases h8 : i < 8
  · have : i < 32 := hi
    simp [h8, hi, show i < 16 by omega, show i < 24 by omega]
  · by_cases h16 : i < 16
    · simp [h8, hi, h16, show i < 24 by omega, show i - 8 < 8 by omega, show 8 + (i - 8) = i by omega, show i - 8 < 32 by omega]
    · by_cases h24 : i < 24
      · simp [h8, hi, h16, h24, show ¬ (i - 8 < 8) by omega, show i - 16 < 8 by omega, show 16 + (i - 16) = i by omega, show i - 16 < 32 by omega]
      · simp [h8, hi, h16, h24, show ¬ (i - 8 < 8) by omega, show ¬ (i - 16 < 8) by omega, show i - 24 < 8 by omega, show 24 + (i - 24) = i by omega, show i - 24 < 32 by omega]
theorem u8_ext (u v : UInt8) (h : ∀ i, i < 8 → u.toBitVec.getLsbD i = v.toBitVec.getLsbD i) : u = v := UInt8.toBitVec_inj.1 (BitVec.eq_of_getLsbD_eq h)
theorem wordOf_ofWord (a b c d : UInt8) : wordOf (ofWord a b c d) = [a, b, c, d] := by
  have far : ∀ (x : UInt8) (i : Nat), 8 ≤ i → x.toBitVec.getLsbD i = false := fun x i h => BitVec.getLsbD_of_ge _ _ h
  have bit : ∀ j, (ofWord a b c d).getLsbD j = (j < 32 && !decide (j < 24) && a.toBitVec.getLsbD (j - 24) ^^ (j < 32 && !decide (j < 16) && b.toBitVec.getLsbD (j - 16)) ^^ (j < 32 && !decide (j < 8) && c.toBitVec.getLsbD (j - 8)) ^^ (j < 32 && d.toBitVec.getLsbD j)) := by
    intro j
    unfold ofWord
    simp only [BitVec.getLsbD_xor, BitVec.getLsbD_shiftLeft, BitVec.getLsbD_setWidth]
    by_cases h : j < 32
    · simp [h, show j - 24 < 32 by omega, show j - 16 < 32 by omega, show j - 8 < 32 by omega]
    · simp [h]
  have h1 : (⟨(ofWord a b c d >>> 24).setWidth 8⟩ : UInt8) = a := u8_ext _ _ fun i hi => by
    simp only [BitVec.getLsbD_setWidth, BitVec.getLsbD_ushiftRight, bit]
    simp [hi, show 24 + i < 32 by omega, show ¬ (24 + i < 16) by omega, show ¬ (24 + i < 8) by omega, far b (24 + i - 16) (by omega), far c (24 + i - 8) (by omega), far d (24 + i) (by omega)]
  have h2 : (⟨(ofWord a b c d >>> 16).setWidth 8⟩ : UInt8) = b := u8_ext _ _ fun i hi => by
    simp only [BitVec.getLsbD_setWidth, BitVec.getLsbD_ushiftRight, bit]
    simp [hi, show 16 + i < 32 by omega, show 16 + i < 24 by omega, show ¬ (16 + i < 8) by omega, far c (16 + i - 8) (by omega), far d (16 + i) (by omega)]
  have h3 : (⟨(ofWord a b c d >>> 8).setWidth 8⟩ : UInt8) = c := u8_ext _ _ fun i hi => by
    simp only [BitVec.getLsbD_setWidth, BitVec.getLsbD_ushiftRight, bit]
    simp [hi, show 8 + i < 32 by omega, show 8 + i < 24 by omega, show 8 + i < 16 by omega, far d (8 + i) (by omega)]
  have h4 : (⟨(ofWord a b c d).setWidth 8⟩ : UInt8) = d := u8_ext _ _ fun i hi => by
    simp only [BitVec.getLsbD_setWidth, bit]
    simp [hi, show i < 32 by omega, show i < 24 by omega, show i < 16 by omega]
  unfold wordOf
  rw [h1, h2, h3, h4]
theorem ofWord_inj {a b c d : UInt8} {s : BitVec 32} : ofWord a b c d = s ↔ [a, b, c, d] = wordOf s := by
  constructor
  · intro h; rw [← h, wordOf_ofWord]
  · intro h
    injection h with h1 h; injection h with h2 h; injection h with h3 h; injection h with h4 _
    rw [h1, h2, h3, h4, ofWord_wordOf]
/-- Sealed: the check over all is zero just where the trailer is the check's word. -/
theorem crc_valid (l : List UInt8) (a b c d : UInt8) : crcOf 0#32 (l ++ [a, b, c, d]) = 0#32 ↔ [a, b, c, d] = wordOf (crcOf 0#32 l) := by
  have e : crcOf 0#32 (l ++ [a, b, c, d]) = crcOf (crcOf 0#32 l) [a, b, c, d] := by simp [crcOf]
  rw [e, crcOf_four]
  constructor
  · intro h
    have h1 := crcZn_inj 32 _ h
    apply ofWord_inj.1
    have h2 := congrArg (crcOf 0#32 l ^^^ ·) h1
    simp only [← BitVec.xor_assoc, BitVec.xor_self, BitVec.zero_xor, BitVec.xor_zero] at h2
    exact h2
  · intro h
    have h1 := ofWord_inj.2 h
    rw [h1, BitVec.xor_self]
    have h0 : crcZn 32 0#32 = 0#32 := by kernel_rfl
    exact h0
end Go.Proofs.YtdiogamcjihejaaGreat
