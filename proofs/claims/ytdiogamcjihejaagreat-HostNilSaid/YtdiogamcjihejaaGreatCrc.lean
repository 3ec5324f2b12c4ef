/- crc's functions by their contracts. -/
import Derived.Test.YtdiogamcjihejaaGreatProg
import Derived.Test.YtdiogamcjihejaaGreatMem
import Derived.Test.YtdiogamcjihejaaGreatCrcM
namespace Go.Proofs.YtdiogamcjihejaaGreat
open Go.RowKit
set_option maxHeartbeats 4000000
set_option maxRecDepth 100000

/-- The cells of bytes. -/
def u8c (l : List UInt8) : List Value := l.map fun c => .int .u8 (c.toNat : Int)
/-- A word as a value. -/
abbrev u32v (s : BitVec 32) : Value := .int .u32 (s.toNat : Int)
theorem xor32 (x y : Int) : bits .xor .u32 x y = ((BitVec.ofInt 32 x ^^^ BitVec.ofInt 32 y).toNat : Int) := by
  unfold bits
  have h := (BitVec.ofInt 32 x ^^^ BitVec.ofInt 32 y).isLt
  exact IntWalk.u32_in ((BitVec.ofInt 32 x ^^^ BitVec.ofInt 32 y).toNat : Int) ⟨by omega, by omega⟩
theorem ofInt_nat (s : BitVec 32) : BitVec.ofInt 32 (s.toNat : Int) = s := by simp
theorem shl1 (r : BitVec 32) : BitVec.ofInt 32 ((r.toNat : Int) * 2 % 4294967296) = r <<< 1 := by
  apply BitVec.eq_of_toNat_eq
  simp [BitVec.toNat_shiftLeft, Nat.shiftLeft_eq]
  omega
theorem byteUp (c : UInt8) : BitVec.ofInt 32 ((c.toNat : Int) % 4294967296 * 16777216 % 4294967296) = c.toBitVec.setWidth 32 <<< 24 := by
  apply BitVec.eq_of_toNat_eq
  have h := c.toNat_lt
  simp [BitVec.toNat_shiftLeft, Nat.shiftLeft_eq]
  omega
theorem msb32 (r : BitVec 32) : r.msb = ((r.toNat : Int) / 2147483648 != 0) := by
  rw [BitVec.msb_eq_decide]
  have := r.isLt
  by_cases h : 2147483648 ≤ r.toNat
  · have e : ((r.toNat : Int) / 2147483648 != 0) = true := by simp; omega
    rw [e]; simpa using h
  · have e : ((r.toNat : Int) / 2147483648 != 0) = false := by simp; omega
    rw [e]; simpa using h
theorem crcStep_any (s : BitVec 32) (c : UInt8) (w : World) :
    Calls Tryz.prog 213 #[u32v s, .int .u8 (c.toNat : Int)] w fun e w' => e = .returned (u32v (crcByte s c)) ∧ w' = w := by
  go_enter Tryz.func213, Tryz.ntmps213
  go_wp2_with fail
  go_loopg [0, 10] 8 (fun q v0 v10 wr => ∃ (k : Nat), k + q = 8 ∧ v10 = .int .i64 k ∧ v0 = u32v (crcZn k (s ^^^ (c.toBitVec.setWidth 32 <<< 24))) ∧ wr = w)
  case atStart =>
    refine ⟨0, rfl, rfl, ?_, rfl⟩
    rw [xor32, ofInt_nat, byteUp]
    rfl
  case round =>
    obtain ⟨k, hq, rfl, rfl, rfl⟩ := hrel
    have e1 : crcZn (k + 1) (s ^^^ (c.toBitVec.setWidth 32 <<< 24)) = crcZ (crcZn k (s ^^^ (c.toBitVec.setWidth 32 <<< 24))) := by rw [crcZn_succ]; rfl
    have hm := msb32 (crcZn k (s ^^^ (c.toBitVec.setWidth 32 <<< 24)))
    by_cases hk : k < 8
    · go_wp2_with fail
      · go_roundg (8 - (k + 1))
        case measure => omega
        case rel =>
          rename_i h
          rw [h] at hm
          refine ⟨k + 1, by omega, by go_num, ?_, rfl⟩
          rw [e1, xor32, shl1]
          unfold crcZ
          rw [hm]
          rfl
      · go_roundg (8 - (k + 1))
        case measure => omega
        case rel =>
          rename_i h
          rw [h] at hm
          refine ⟨k + 1, by omega, by go_num, ?_, rfl⟩
          rw [e1]
          unfold crcZ
          rw [hm]
          have e2 := congrArg BitVec.toNat (shl1 (crcZn k (s ^^^ (c.toBitVec.setWidth 32 <<< 24))))
          simp at e2
          simp [← e2]
          omega
    · have hk8 : k = 8 := by omega
      subst hk8
      go_wp2_with fail
      go_ret
      exact ⟨rfl, rfl⟩
theorem crcOf_take {l : List UInt8} {k : Nat} (h : k < l.length) : crcOf 0#32 (l.take (k + 1)) = crcByte (crcOf 0#32 (l.take k)) l[k] := by
  unfold crcOf
  rw [List.take_succ_eq_append_getElem h, List.foldl_append]
  rfl
/-- The check over bytes. -/
theorem crcBits_any (A : Option Addr) (n c : Nat) (l : List UInt8) (B : Nat) (w : World) (hr : Reads w B 1 A n (u8c l)) (hn : n < 1073741824) :
    Calls Tryz.prog 177 #[.slice A n c] w fun e w' => e = .returned (u32v (crcOf 0#32 l)) ∧ w' = w := by
  have hl : l.length = n := by have := hr.1; simpa [u8c] using this
  have Hl := Lib.hid hl
  clear hl
  go_enter Tryz.func177, Tryz.ntmps177
  go_wp2_with fail
  go_loopg [3, 5, 8] n (fun q v3 _v5 v8 wr => ∃ (k : Nat), k + q = n ∧ v8 = .int .i64 k ∧ v3 = u32v (crcOf 0#32 (l.take k)) ∧ wr = w)
  case atStart => exact ⟨0, by omega, rfl, rfl, rfl⟩
  case round =>
    obtain ⟨k, hq, rfl, rfl, rfl⟩ := hrel
    by_cases hk : k < n
    · obtain ⟨ad, u, rfl, hb, hu, hcell⟩ := hr.at_ hk
      have hkl : k < l.length := by rw [Hl.out]; exact hk
      obtain rfl : u = .int .u8 (l[k].toNat : Int) := by
        simp [u8c, hkl] at hu
        exact hu.symm
      go_wp2_with (go_at_call 213; refine (crcStep_any _ _ _).mono ?_; rintro e w' ⟨rfl, rfl⟩)
      go_roundg (n - (k + 1))
      case measure => omega
      case rel =>
        refine ⟨k + 1, by omega, by go_num, ?_, rfl⟩
        rw [crcOf_take hkl]
    · obtain rfl : k = n := by omega
      go_wp2_with fail
      go_ret
      refine ⟨?_, rfl⟩
      have hnl := Hl.out
      rw [List.take_of_length_le (by omega)]
      rfl
end Go.Proofs.YtdiogamcjihejaaGreat
