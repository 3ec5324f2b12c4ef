/- The reference's remainder (parapetref01), plain. -/
import Derived.Test.YtdiogamcjihejaaGreatCrc
namespace Go.Proofs.YtdiogamcjihejaaGreat
open Go.RowKit

def degTo : Nat → Int
  | 0 => -1
  | k + 1 => if (4812730177 : Nat) / 2 ^ k % 2 = 1 then (k : Int) else degTo k
theorem degTo_64 : degTo 64 = 32 := by decide +kernel
theorem degTo_succ (k : Nat) : degTo (k + 1) = if (4812730177 : Nat) / 2 ^ k % 2 = 1 then (k : Int) else degTo k := rfl
theorem xor64 (x y : Int) : bits .xor .u64 x y = ((BitVec.ofInt 64 x ^^^ BitVec.ofInt 64 y).toNat : Int) := by
  unfold bits
  have h := (BitVec.ofInt 64 x ^^^ BitVec.ofInt 64 y).isLt
  exact IntWalk.u64_in ((BitVec.ofInt 64 x ^^^ BitVec.ofInt 64 y).toNat : Int) ⟨by omega, by omega⟩
theorem shl64 (s : BitVec 32) : s.setWidth 64 <<< 1 = (s <<< 1).setWidth 64 ^^^ (if s.msb then 0x100000000#64 else 0#64) := by
  have e : (0x100000000#64) = BitVec.twoPow 64 32 := by decide
  have hm : s.msb = s.getLsbD 31 := by rw [BitVec.msb_eq_getLsbD_last]
  apply BitVec.eq_of_getLsbD_eq
  intro i hi
  rw [hm, e]
  have hx : (if s.getLsbD 31 = true then BitVec.twoPow 64 32 else 0#64).getLsbD i = (s.getLsbD 31 && decide (32 = i)) := by
    cases s.getLsbD 31 with
    | true => simp only [if_true, BitVec.getLsbD_twoPow]; simp
    | false => simp
  simp only [BitVec.getLsbD_xor, hx, BitVec.getLsbD_shiftLeft, BitVec.getLsbD_setWidth]
  by_cases h0 : i < 1
  · have : i = 0 := by omega
    subst this
    simp
  · by_cases h32 : i = 32
    · subst h32
      simp
    · by_cases h31 : i < 32
      · have n32 : ¬ 32 = i := by omega
        have l64 : i - 1 < 64 := by omega
        simp only [hi, h0, h31, n32, l64, decide_true, decide_false, Bool.not_false, Bool.true_and, Bool.and_false, Bool.xor_false]
      · have n32 : ¬ 32 = i := by omega
        have l64 : i - 1 < 64 := by omega
        have g := BitVec.getLsbD_of_ge s (i - 1) (by omega)
        simp only [hi, h0, h31, n32, g, decide_true, decide_false, Bool.not_false, Bool.true_and, Bool.and_false, Bool.false_and, Bool.xor_false]
/-- A remainder's step in 64 bits. -/
theorem rem_step (s : BitVec 32) (b : Bool) : ((s.setWidth 64 <<< 1) ^^^ (if b then 1#64 else 0#64)) ^^^ (if s.msb then 0x11edc6f41#64 else 0#64) = (crcZ s ^^^ bit0 b).setWidth 64 := by
  have e1 : (0x11edc6f41#64) = 0x100000000#64 ^^^ (0x1edc6f41#32).setWidth 64 := by decide
  have e2 : (1#64) = (1#32).setWidth 64 := by decide
  have e3 : (0#64) = (0#32).setWidth 64 := by decide
  have lc : ∀ x y z : BitVec 64, x ^^^ (y ^^^ z) = y ^^^ (x ^^^ z) := fun x y z => by rw [← BitVec.xor_assoc, BitVec.xor_comm x y, BitVec.xor_assoc]
  have cancel : ∀ x y : BitVec 64, x ^^^ (x ^^^ y) = y := fun x y => by rw [← BitVec.xor_assoc, BitVec.xor_self, BitVec.zero_xor]
  unfold crcZ bit0
  rw [shl64]
  cases b <;> cases s.msb <;> simp only [if_true, if_false, Bool.false_eq_true, BitVec.setWidth_xor, BitVec.xor_zero, e1, e2, BitVec.xor_assoc]
  · simp only [cancel]
  · rw [lc ((1#32).setWidth 64), cancel, BitVec.xor_comm ((1#32).setWidth 64)]
theorem up64 (s : BitVec 32) : BitVec.ofInt 64 (s.toNat : Int) = s.setWidth 64 := by
  apply BitVec.eq_of_toNat_eq
  have := s.isLt
  simp
theorem up64_2 (s : BitVec 32) : BitVec.ofInt 64 ((s.toNat : Int) * 2) = s.setWidth 64 <<< 1 := by
  apply BitVec.eq_of_toNat_eq
  have := s.isLt
  simp [BitVec.toNat_shiftLeft, Nat.shiftLeft_eq]
  omega
theorem down64 (s : BitVec 32) : (s.setWidth 64).toNat = s.toNat := by
  have := s.isLt
  simp
  omega
theorem bitsOf_get (c : UInt8) (j : Nat) (hj : j < 8) : (bitsOf c)[j]? = some (c.toBitVec.getLsbD (7 - j)) := by
  unfold bitsOf
  match j, hj with
  | 0, _ => rfl
  | 1, _ => rfl
  | 2, _ => rfl
  | 3, _ => rfl
  | 4, _ => rfl
  | 5, _ => rfl
  | 6, _ => rfl
  | 7, _ => rfl
theorem bitsOf_length (c : UInt8) : (bitsOf c).length = 8 := rfl
end Go.Proofs.YtdiogamcjihejaaGreat
