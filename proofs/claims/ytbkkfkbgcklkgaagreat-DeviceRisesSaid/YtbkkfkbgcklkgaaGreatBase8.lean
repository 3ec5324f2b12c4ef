/- The base of the laws, part 8: contracts and plain lemmas, no statement. -/
import Derived.Test.YtbkkfkbgcklkgaaGreatBase7
set_option linter.unusedVariables false
namespace Go.Proofs.YtbkkfkbgcklkgaaGreat
namespace MemM
/-- Put right as the program does: the memory, the word, the error. -/
def repair (m : MemM) : MemM × Int × Int :=
  if m.holds 0 then
    if m.holds 1 then (m, max (m.word 0) (m.word 1), 0) else ((m.writeSlot 1 (m.word 0)).1, m.word 0, (m.writeSlot 1 (m.word 0)).2)
  else if m.holds 1 then ((m.writeSlot 0 (m.word 1)).1, m.word 1, (m.writeSlot 0 (m.word 1)).2)
  else
    let a := if m.b.getD 0 0 = 0 then (m, 0) else m.write 0 0
    if a.2 ≠ 0 then (a.1, 0, a.2) else
    let c := if m.b.getD 5 0 = 0 then (a.1, 0) else a.1.write 5 0
    (c.1, 0, c.2)
theorem write_b (m : MemM) (i : Nat) (c : UInt8) : (m.write i c).1.b = m.b ∨ (m.write i c).1.b = m.b.set i c := by
  unfold write
  split
  · exact .inl rfl
  split
  · exact .inl rfl
  split
  · exact .inl rfl
  · exact .inr rfl
theorem write_far (m : MemM) (i j : Nat) (c : UInt8) (h : i ≠ j) : (m.write i c).1.b.getD j 0 = m.b.getD j 0 := by
  rcases m.write_b i c with e | e <;> rw [e]
  rw [getD_set8, if_neg (by omega)]
theorem top_both (m : MemM) (h0 : m.holds 0 = true) (h1 : m.holds 1 = true) : m.top = max (m.word 0) (m.word 1) := by
  have a := m.word_range 0
  have b := m.word_range 1
  unfold top
  simp only [h0, h1, Bool.true_and]
  by_cases c : 0 < m.word 0
  · simp only [c, decide_true, if_true]
    by_cases d : m.word 0 < m.word 1
    · simp only [d, decide_true, if_true]; omega
    · simp only [d, decide_false, Bool.false_eq_true, if_false]; omega
  · simp only [c, decide_false, Bool.false_eq_true, if_false]
    by_cases d : 0 < m.word 1
    · simp only [d, decide_true, if_true]; omega
    · simp only [d, decide_false, Bool.false_eq_true, if_false]; omega
theorem top_first (m : MemM) (h0 : m.holds 0 = true) (h1 : m.holds 1 = false) : m.top = m.word 0 := by
  have a := m.word_range 0
  unfold top
  simp only [h0, h1, Bool.true_and, Bool.false_and]
  by_cases c : 0 < m.word 0
  · simp [c]
  · simp [c]; omega
theorem top_second (m : MemM) (h0 : m.holds 0 = false) (h1 : m.holds 1 = true) : m.top = m.word 1 := by
  have a := m.word_range 1
  unfold top
  simp only [h0, h1, Bool.true_and, Bool.false_and]
  by_cases c : 0 < m.word 1
  · simp [c]
  · simp [c]; omega
theorem top_none (m : MemM) (h0 : m.holds 0 = false) (h1 : m.holds 1 = false) : m.top = 0 := by
  unfold top
  simp [h0, h1]
end MemM
theorem openM_repair (m : MemM) (mx : Int) (h : mx ≠ 0) (hb : 10 ≤ m.b.length) (ho : m.off = false) :
    openM m mx = (m.repair.1, if m.repair.2.2 = 0 then some ⟨mx, m.repair.2.1, false⟩ else none, m.repair.2.2) := by
  have e0 : ¬ (mx = 0 ∨ m.b.length < 10) := by omega
  unfold openM
  rw [if_neg e0, ho, if_neg (by simp)]
  cases h0 : m.holds 0 <;> cases h1 : m.holds 1
  · rw [m.top_none h0 h1]
    have em : m.mend 0 = if m.b.getD 0 0 = 0 then (m, 0) else m.write 0 0 := by
      unfold MemM.mend
      simp only [h0, show m.holds (1 - 0) = false from h1, Bool.not_false, Bool.and_false, Bool.false_eq_true, if_false, Bool.true_and, Nat.mul_zero]
      by_cases e : m.b.getD 0 0 = 0
      · rw [if_pos e, if_neg (by rw [e]; decide)]
      · rw [if_neg e, if_pos (by simpa using e)]
    have er : m.repair = (if (if m.b.getD 0 0 = 0 then (m, 0) else m.write 0 0).2 ≠ 0 then ((if m.b.getD 0 0 = 0 then (m, 0) else m.write 0 0).1, 0, (if m.b.getD 0 0 = 0 then (m, 0) else m.write 0 0).2) else
        ((if m.b.getD 5 0 = 0 then ((if m.b.getD 0 0 = 0 then (m, 0) else m.write 0 0).1, 0) else (if m.b.getD 0 0 = 0 then (m, 0) else m.write 0 0).1.write 5 0).1, 0, (if m.b.getD 5 0 = 0 then ((if m.b.getD 0 0 = 0 then (m, 0) else m.write 0 0).1, 0) else (if m.b.getD 0 0 = 0 then (m, 0) else m.write 0 0).1.write 5 0).2)) := by
      unfold MemM.repair
      simp only [h0, h1, Bool.false_eq_true, if_false]
    rw [er, em]
    have hA : (if m.b.getD 0 0 = 0 then (m, 0) else m.write 0 0).1.holds 0 = false ∧ (if m.b.getD 0 0 = 0 then (m, 0) else m.write 0 0).1.holds 1 = false ∧ (if m.b.getD 0 0 = 0 then (m, 0) else m.write 0 0).1.b.getD 5 0 = m.b.getD 5 0 := by
      split
      · exact ⟨h0, h1, rfl⟩
      · refine ⟨?_, ?_, m.write_far 0 5 0 (by omega)⟩
        · unfold MemM.holds
          rcases m.write_b 0 0 with e | e
          · rw [e]; exact h0
          · rw [e, getD_set8]
            split
            · rfl
            · exact h0
        · unfold MemM.holds
          rw [m.write_far 0 (5 * 1) 0 (by omega)]
          exact h1
    generalize (if m.b.getD 0 0 = 0 then (m, 0) else m.write 0 0) = a at hA ⊢
    obtain ⟨a1, a2, a3⟩ := hA
    obtain ⟨ma, ea⟩ := a
    simp only at *
    by_cases he : ea = 0
    · subst he
      have em1 : ma.mend 1 = if m.b.getD 5 0 = 0 then (ma, 0) else ma.write 5 0 := by
        unfold MemM.mend
        simp only [a2, show ma.holds (1 - 1) = false from a1, Bool.not_false, Bool.and_false, Bool.false_eq_true, if_false, Bool.true_and, Nat.mul_one]
        rw [a3]
        by_cases e : m.b.getD 5 0 = 0
        · rw [if_pos e, if_neg (by rw [e]; decide)]
        · rw [if_neg e, if_pos (by simpa using e)]
      simp only [ne_eq, not_true_eq_false, if_false, em1]
      generalize (if m.b.getD 5 0 = 0 then (ma, 0) else ma.write 5 0) = r
      obtain ⟨mr, err⟩ := r
      by_cases hr : err = 0
      · subst hr; simp
      · simp [hr]
    · simp [he]
  · rw [m.top_second h0 h1]
    have em : m.mend 0 = m.writeSlot 0 (m.word 1) := by
      unfold MemM.mend
      rw [if_pos (by rw [h0, show m.holds (1 - 0) = true from h1]; rfl)]
    have er : m.repair = ((m.writeSlot 0 (m.word 1)).1, m.word 1, (m.writeSlot 0 (m.word 1)).2) := by
      unfold MemM.repair
      simp only [h0, h1, Bool.false_eq_true, if_false, if_true]
    rw [er, em]
    have hs := m.word_range 1
    obtain ⟨_, s2, _, _⟩ := MemM.writeSlot_spec m 0 (m.word 1) (by omega) hs.1 hs.2 ho hb
    replace s2 : (m.writeSlot 0 (m.word 1)).1.holds 1 = true := s2.trans h1
    generalize m.writeSlot 0 (m.word 1) = r at *
    obtain ⟨mr, err⟩ := r
    simp only at *
    by_cases hr : err = 0
    · subst hr
      have em1 : mr.mend 1 = (mr, 0) := by
        unfold MemM.mend
        simp [s2]
      simp [em1]
    · simp [hr]
  · rw [m.top_first h0 h1]
    have em : m.mend 0 = (m, 0) := by
      unfold MemM.mend
      simp [h0]
    have em1 : m.mend 1 = m.writeSlot 1 (m.word 0) := by
      unfold MemM.mend
      rw [if_pos (by rw [h1, show m.holds (1 - 1) = true from h0]; rfl)]
    have er : m.repair = ((m.writeSlot 1 (m.word 0)).1, m.word 0, (m.writeSlot 1 (m.word 0)).2) := by
      unfold MemM.repair
      simp only [h0, h1, Bool.false_eq_true, if_false, if_true]
    rw [er, em]
    simp only [ne_eq, not_true_eq_false, if_false, em1]
    generalize m.writeSlot 1 (m.word 0) = r
    obtain ⟨mr, err⟩ := r
    by_cases hr : err = 0
    · subst hr; simp
    · simp [hr]
  · rw [m.top_both h0 h1]
    have em : ∀ k, k < 2 → m.mend k = (m, 0) := by
      intro k hk
      have hc : k = 0 ∨ k = 1 := by omega
      rcases hc with rfl | rfl <;> (unfold MemM.mend; simp [h0, h1])
    have er : m.repair = (m, max (m.word 0) (m.word 1), 0) := by
      unfold MemM.repair
      simp only [h0, h1, if_true]
    rw [er, em 0 (by omega)]
    simp [em 1 (by omega)]
end Go.Proofs.YtbkkfkbgcklkgaaGreat
/- cell's cell by its contracts: read, write. -/
namespace Go.Proofs.YtbkkfkbgcklkgaaGreat
open Go.RowKit
set_option maxHeartbeats 4000000
set_option maxRecDepth 100000

theorem byteOf_toNat (n : Int) : ((byteOf n).toNat : Int) = n % 256 := by
  unfold byteOf
  show ((BitVec.ofInt 8 n).toNat : Int) = n % 256
  rw [BitVec.toNat_ofInt]
  omega
theorem write_length (m : MemM) (i : Nat) (c : UInt8) : (m.write i c).1.b.length = m.b.length := by
  rcases m.write_b i c with e | e <;> rw [e]
  exact List.length_set
theorem memWrite_at (mb : Nat) (m : MemM) (F : Nat → Prop) (i : Nat) (x : UInt8) (j cv : Int) (w : World) (hj : j = (i : Int)) (hx : cv = (x.toNat : Int)) (h : MemIs w mb m F) (hi : i < m.b.length) :
    Calls Tryz.prog 128 #[.pointer (some ⟨mb, 0, none⟩), .int .i64 j, .int .u8 cv] w fun e w' => e = .returned (.int .i64 (m.write i x).2) ∧ MemTo w mb (m.write i x).1 F w' := by
  subst hj hx
  exact memWrite_any mb m F i x w h hi
theorem memRead_at (mb : Nat) (m : MemM) (F : Nat → Prop) (i : Nat) (j : Int) (w : World) (hj : j = (i : Int)) (h : MemIs w mb m F) (ho : m.off = false) (hi : i < m.b.length) :
    Calls Tryz.prog 126 #[.pointer (some ⟨mb, 0, none⟩), .int .i64 j] w fun e w' => e = .returned (.tuple #[.int .u8 ((m.b.getD i 0).toNat : Int), .int .i64 0]) ∧ w' = w := by
  subst hj
  have := memRead_any mb m F i w h hi
  rw [ho] at this
  simpa using this
/-- The first bytes of a word. -/
def wordTo (b : List UInt8) (s : Nat) : Nat → BitVec 32
  | 0 => 0
  | i + 1 => (wordTo b s i <<< 8) ||| (b.getD (s + i) 0).toBitVec.setWidth 32
theorem wordTo_step (b : List UInt8) (s i : Nat) : bits .or .u32 (((wordTo b s i).toNat : Int) * 256 % 4294967296) (((b.getD (s + i) 0).toNat : Int) % 4294967296) = ((wordTo b s (i + 1)).toNat : Int) := by
  rw [or32, up0]
  have : BitVec.ofInt 32 (((wordTo b s i).toNat : Int) * 256 % 4294967296) = wordTo b s i <<< 8 := by
    apply BitVec.eq_of_toNat_eq
    rw [BitVec.toNat_ofInt, BitVec.toNat_shiftLeft, Nat.shiftLeft_eq]
    omega
  rw [this]
  rfl
theorem shl_word (A B C D : BitVec 32) : ((((0#32 <<< 8 ||| A) <<< 8 ||| B) <<< 8 ||| C) <<< 8 ||| D) = ((A <<< 24 ||| B <<< 16) ||| C <<< 8) ||| D := by
  simp only [BitVec.shiftLeft_or_distrib, ← BitVec.shiftLeft_add, BitVec.zero_shiftLeft, BitVec.zero_or, Nat.reduceAdd]
theorem wordTo_all (m : MemM) (k : Nat) : ((wordTo m.b (5 * k + 1) 4).toNat : Int) = m.word k := by
  have e := shl_word ((m.b.getD (5 * k + 1) 0).toBitVec.setWidth 32) ((m.b.getD (5 * k + 1 + 1) 0).toBitVec.setWidth 32) ((m.b.getD (5 * k + 1 + 2) 0).toBitVec.setWidth 32) ((m.b.getD (5 * k + 1 + 3) 0).toBitVec.setWidth 32)
  rw [ofWord_or] at e
  unfold MemM.word numAt
  rw [← e]
  rfl
theorem cellRead_any (mb : Nat) (m : MemM) (F : Nat → Prop) (k : Nat) (kk : Int) (w : World) (hkk : kk = (k : Int)) (h : MemIs w mb m F) (ho : m.off = false) (hb : 10 ≤ m.b.length) (hk : k < 2) :
    Calls Tryz.prog 83 #[.pointer (some ⟨mb, 0, none⟩), .int .i64 kk] w fun e w' => e = .returned (.tuple #[.int .u8 ((m.b.getD (5 * k) 0).toNat : Int), .int .u32 (m.word k), .int .i64 0]) ∧ w' = w := by
  subst hkk
  have hw1 : IntKind.i64.wrap ((k : Int) * 5) = (k : Int) * 5 := IntWalk.i64_in _ (by omega)
  have hw2 : IntKind.i64.wrap ((k : Int) * 5 + 1) = (k : Int) * 5 + 1 := IntWalk.i64_in _ (by omega)
  have hrd := memRead_at mb m F (5 * k) ((k : Int) * 5) w (by omega) h ho (by omega)
  obtain ⟨mk, Hmk⟩ : ∃ x, Hid (x = ((m.b.getD (5 * k) 0).toNat : Int)) := ⟨_, Lib.hid rfl⟩
  rw [← Hmk.out] at hrd ⊢
  go_enter Tryz.func83, Tryz.ntmps83
  go_wp2_with fail
  refine hrd.mono ?_
  rintro e w1 ⟨rfl, rfl⟩
  go_wp2_with fail
  go_loop [8, 9, 20] (fun v8 v9 v20 => ∃ i : Nat, i ≤ 4 ∧ v8 = .int .i64 0 ∧ v9 = .int .u32 ((wordTo m.b (5 * k + 1) i).toNat : Int) ∧ v20 = .int .i64 i) (fun _ _ v20 => 4 - (intOf v20).toNat)
  case atStart => exact ⟨0, by omega, rfl, rfl, rfl⟩
  case round =>
    obtain ⟨i, hi, rfl, rfl, rfl⟩ := hrel
    by_cases hlt : i < 4
    · have hw3 : IntKind.i64.wrap ((k : Int) * 5 + 1 + (i : Int)) = (k : Int) * 5 + 1 + (i : Int) := IntWalk.i64_in _ (by omega)
      have Hs := Lib.hid (wordTo_step m.b (5 * k + 1) i)
      have hrd := memRead_at mb m F (5 * k + 1 + i) ((k : Int) * 5 + 1 + (i : Int)) w1 (by omega) h ho (by omega)
      generalize ((m.b.getD (5 * k + 1 + i) 0).toNat : Int) = c at hrd Hs
      go_wp2_with fail
      refine hrd.mono ?_
      rintro e w2 ⟨rfl, rfl⟩
      go_wp2_with fail
      go_round
      case rel => exact ⟨i + 1, by omega, rfl, by rw [← Hs.out], by go_num⟩
      case measure => simp [intOf]; omega
    · have hi4 : i = 4 := by omega
      subst hi4
      rw [wordTo_all]
      go_wp2_with fail
      refine bodyPost_ret (v := .tuple #[.int .u8 mk, .int .u32 (m.word k), .int .i64 0]) (by simp [results, Tryz.results83, go_sem]) rfl ⟨rfl, rfl⟩
theorem writeAll_cons (m : MemM) (x : Nat × UInt8) (l : List (Nat × UInt8)) : m.writeAll (x :: l) = if (m.write x.1 x.2).2 ≠ 0 then m.write x.1 x.2 else (m.write x.1 x.2).1.writeAll l := rfl
theorem slotBytes_drop (k : Nat) (x : Int) (i : Nat) (hi : i < 4) : (MemM.slotBytes k x).drop (i + 1) = (5 * k + 1 + i, byteOf (x / 2 ^ (24 - 8 * i))) :: (MemM.slotBytes k x).drop (i + 1 + 1) := by
  have hc : i = 0 ∨ i = 1 ∨ i = 2 ∨ i = 3 := by omega
  rcases hc with rfl | rfl | rfl | rfl <;> simp [MemM.slotBytes]
theorem cellWrite_any (mb : Nat) (m : MemM) (F : Nat → Prop) (k : Nat) (kk x : Int) (w : World) (hkk : kk = (k : Int)) (h : MemIs w mb m F) (hb : 10 ≤ m.b.length) (hk : k < 2) (hx : 0 ≤ x ∧ x < 4294967296) :
    Calls Tryz.prog 127 #[.pointer (some ⟨mb, 0, none⟩), .int .i64 kk, .int .u32 x] w fun e w' => e = .returned (.int .i64 (m.writeSlot k x).2) ∧ MemTo w mb (m.writeSlot k x).1 F w' := by
  subst hkk
  have hw1 : IntKind.i64.wrap ((k : Int) * 5) = (k : Int) * 5 := IntWalk.i64_in _ (by omega)
  have hw2 : IntKind.i64.wrap ((k : Int) * 5 + 1) = (k : Int) * 5 + 1 := IntWalk.i64_in _ (by omega)
  have e0 : m.writeSlot k x = if (m.write (5 * k) 0).2 ≠ 0 then m.write (5 * k) 0 else (m.write (5 * k) 0).1.writeAll ((MemM.slotBytes k x).drop 1) := rfl
  have hl0 := write_length m (5 * k) 0
  obtain ⟨q, Hq⟩ : ∃ q, Hid (q = m.writeSlot k x) := ⟨_, Lib.hid rfl⟩
  rw [← Hq.out]
  rw [← Hq.out] at e0
  have H0 := Lib.hid e0
  clear e0 Hq
  go_enter Tryz.func127, Tryz.ntmps127
  go_wp2_with fail
  refine (memWrite_at mb m F (5 * k) 0 _ _ w (by omega) rfl h (by omega)).mono ?_
  rintro e w1 ⟨rfl, t1⟩
  generalize m.write (5 * k) 0 = r at *
  obtain ⟨m1, e1⟩ := r
  simp only at *
  by_cases he : e1 = 0
  · subst he
    have Hq : Hid (q = m1.writeAll ((MemM.slotBytes k x).drop 1)) := Lib.hid (by rw [H0.out]; simp)
    clear H0
    obtain ⟨t1, k1, z1⟩ := t1
    have Hz1 := Lib.hid z1
    clear z1
    go_wp2_with fail
    go_loopw [17] (fun v17 wl => ∃ (i : Nat) (mi : MemM), i ≤ 4 ∧ v17 = .int .i64 i ∧ MemIs wl mb mi F ∧ mi.b.length = m.b.length ∧ Hid (q = mi.writeAll ((MemM.slotBytes k x).drop (i + 1))) ∧ Keep F w wl ∧ Hid (wl.heap.size = w.heap.size)) (fun v17 _ => 4 - (intOf v17).toNat)
    case atStart => exact ⟨0, m1, by omega, rfl, t1, hl0, Hq, k1, Hz1⟩
    case round =>
      obtain ⟨i, mi, hi, rfl, ti, hli, Hqi, ki, Hzi⟩ := hrel
      by_cases hlt : i < 4
      · have hw3 : IntKind.i64.wrap ((k : Int) * 5 + 1 + (i : Int)) = (k : Int) * 5 + 1 + (i : Int) := IntWalk.i64_in _ (by omega)
        have hw4 : IntKind.i64.wrap (8 * (i : Int)) = 8 * (i : Int) := IntWalk.i64_in _ (by omega)
        have hw5 : IntKind.i64.wrap (24 - 8 * (i : Int)) = 24 - 8 * (i : Int) := IntWalk.i64_in _ (by omega)
        have Hqi2 : Hid (q = if (mi.write (5 * k + 1 + i) (byteOf (x / 2 ^ (24 - 8 * i)))).2 ≠ 0 then mi.write (5 * k + 1 + i) (byteOf (x / 2 ^ (24 - 8 * i))) else (mi.write (5 * k + 1 + i) (byteOf (x / 2 ^ (24 - 8 * i)))).1.writeAll ((MemM.slotBytes k x).drop (i + 1 + 1))) := Lib.hid (by rw [Hqi.out, slotBytes_drop k x i hlt, writeAll_cons])
        have hb8 := byteOf_toNat (x / 2 ^ (24 - 8 * i))
        have hwl := write_length mi (5 * k + 1 + i) (byteOf (x / 2 ^ (24 - 8 * i)))
        have hcall := fun cv (hcv : cv = ((byteOf (x / 2 ^ (24 - 8 * i))).toNat : Int)) => memWrite_at mb mi F (5 * k + 1 + i) (byteOf (x / 2 ^ (24 - 8 * i))) ((k : Int) * 5 + 1 + (i : Int)) cv wr (by omega) hcv ti (by omega)
        rw [hb8] at hcall
        generalize mi.write (5 * k + 1 + i) (byteOf (x / 2 ^ (24 - 8 * i))) = r at *
        obtain ⟨m2, e2⟩ := r
        simp only at hcall hwl
        have Hqi3 : Hid (q = if e2 ≠ 0 then (m2, e2) else m2.writeAll ((MemM.slotBytes k x).drop (i + 1 + 1))) := Lib.hid Hqi2.out
        clear Hqi2 Hqi hb8
        go_wp2_with fail
        refine (hcall _ rfl).mono ?_
        rintro e w2 ⟨rfl, t2, k2, z2⟩
        have Hz2 := Lib.hid z2
        clear z2 hcall
        by_cases he : e2 = 0
        · subst he
          have Hq4 : Hid (q = m2.writeAll ((MemM.slotBytes k x).drop (i + 1 + 1))) := Lib.hid (by rw [Hqi3.out]; simp)
          clear Hqi3
          go_wp2_with fail
          go_round
          case rel => exact ⟨i + 1, m2, by omega, by go_num, t2, by omega, Hq4, ki.andThen k2 (fun _ _ h => h), Lib.hid (Hz2.out.trans Hzi.out)⟩
          case measure => simp [intOf]; omega
        · have Hq4 : Hid (q = (m2, e2)) := Lib.hid (by rw [Hqi3.out, if_pos he])
          have g1 : (e2 != 0) = true := by simpa using he
          clear Hqi3
          go_wp2_with fail
          go_ret
          rw [Hq4.out]
          exact ⟨rfl, t2, ki.andThen k2 (fun _ _ h => h), Hz2.out.trans Hzi.out⟩
      · have hi4 : i = 4 := by omega
        subst hi4
        have Hq4 : Hid (q = mi.write (5 * k) 0xa5) := Lib.hid (by
          rw [Hqi.out]
          show mi.writeAll [(5 * k, 0xa5)] = _
          rw [writeAll_cons]
          by_cases he : (mi.write (5 * k) 0xa5).2 = 0
          · rw [if_neg (by simpa using he)]
            exact Prod.ext rfl he.symm
          · rw [if_pos he])
        have hcall := memWrite_at mb mi F (5 * k) 0xa5 ((k : Int) * 5) 165 wr (by omega) rfl ti (by omega)
        generalize mi.write (5 * k) 0xa5 = r at *
        clear Hqi
        go_wp2_with fail
        refine hcall.mono ?_
        rintro e w2 ⟨rfl, t2, k2, z2⟩
        have Hz2 := Lib.hid z2
        clear z2
        go_wp2_with fail
        go_ret
        rw [Hq4.out]
        exact ⟨rfl, t2, ki.andThen k2 (fun _ _ h => h), Hz2.out.trans Hzi.out⟩
  · have Hq : Hid (q = (m1, e1)) := Lib.hid (by rw [H0.out]; simp [he])
    have g1 : (e1 != 0) = true := by simpa using he
    go_wp2_with fail
    go_ret
    rw [Hq.out]
    exact ⟨rfl, t1⟩
end Go.Proofs.YtbkkfkbgcklkgaaGreat
/- The reference's memory by its contracts. -/
namespace Go.Proofs.YtbkkfkbgcklkgaaGreat
open Go.RowKit
set_option maxHeartbeats 4000000
set_option maxRecDepth 100000

def rmemCells (row : Value) (m : MemM) (wr : Int) : Array Value := #[row, .bool m.off, .bool m.armed, .int .i64 m.left, .int .i64 wr]
/-- A memory at block mb: its bytes' row. -/
structure RMemAt (w : World) (mb : Nat) (m : MemM) (F : Nat → Prop) (row : Value) (wr : Int) : Prop where
  blk : Blk w mb 97 (rmemCells row m wr)
  bytes : w.ownsRow 0 5 1 row m.b.length (u8c m.b)
  fb : F mb
  fr : ∀ x, row.ownBlock = some x → F x
  len : m.b.length ≤ 4096
  left : 0 ≤ m.left ∧ m.left < 9223372036854775808
def RMemIs (w : World) (mb : Nat) (m : MemM) (F : Nat → Prop) : Prop := ∃ row wr, RMemAt w mb m F row wr
section
variable {w w' : World} {mb : Nat} {m m' : MemM} {F F' S : Nat → Prop} {row : Value} {wr wr' : Int}
theorem RMemAt.keep (h : RMemAt w mb m F row wr) (hk : Keep S w w') (hS : ∀ x, F x → ¬ S x) (hF : ∀ x, F x → F' x) : RMemAt w' mb m F' row wr where
  blk := h.blk.keep hk (hS _ h.fb)
  bytes := ownsRow_keep h.bytes hk (fun x hx => hS _ (h.fr x hx))
  fb := hF _ h.fb
  fr := fun x hx => hF _ (h.fr x hx)
  len := h.len
  left := h.left
theorem RMemIs.keep (h : RMemIs w mb m F) (hk : Keep S w w') (hS : ∀ x, F x → ¬ S x) (hF : ∀ x, F x → F' x) : RMemIs w' mb m F' := by
  obtain ⟨row, wr, h⟩ := h
  exact ⟨row, wr, h.keep hk hS hF⟩
theorem RMemIs.below (h : RMemIs w mb m F) (hb : Below w.heap.size w w') : RMemIs w' mb m F := h.keep (S := fun _ => False) (Keep.of_below hb) (fun _ _ h => h) (fun _ h => h)
theorem RMemIs.drewN (h : RMemIs w mb m F) (k : Nat) : RMemIs (w.drewN k) mb m F := h.keep (S := fun _ => False) ((Keep.refl _ w).drewN k) (fun _ _ h => h) (fun _ h => h)
/-- Behind a store into its block. -/
theorem RMemAt.upd (h : RMemAt w mb m F row wr) (hk : Keep (fun x => x = mb) w w') (hb : Blk w' mb 97 (rmemCells row m' wr')) (e : m'.b = m.b) (hl : 0 ≤ m'.left ∧ m'.left < 9223372036854775808) : RMemAt w' mb m' F row wr' where
  blk := hb
  bytes := by rw [e]; exact ownsRow_keep h.bytes hk (fun x hx e => own_ne h.bytes h.blk (by decide) (e ▸ hx))
  fb := h.fb
  fr := h.fr
  len := by rw [e]; exact h.len
  left := hl
end
/-- What a call on a memory leaves. -/
structure RMemTo (w : World) (mb : Nat) (m : MemM) (F : Nat → Prop) (w' : World) : Prop where
  is_ : RMemIs w' mb m F
  keep : Keep F w w'
  size : w'.heap.size = w.heap.size
theorem rmemArm_any (mb : Nat) (m : MemM) (F : Nat → Prop) (n : Int) (w : World) (h : RMemIs w mb m F) (hn : n < 9223372036854775808) :
    Calls Tryz.prog 69 #[.pointer (some ⟨mb, 0, none⟩), .int .i64 n] w fun e w' => e = .returned (.int .i64 (m.arm n).2) ∧ RMemTo w mb (m.arm n).1 F w' := by
  obtain ⟨row, wr, h⟩ := h
  have hc := h.blk.cell
  have hf := h.blk.frozen
  unfold rmemCells at hc
  by_cases h0 : n < 0
  · have e1 : m.arm n = (m, 2) := by unfold MemM.arm; rw [if_pos h0]
    rw [e1]
    go_enter Tryz.func69, Tryz.ntmps69
    go_wp2_with fail
    go_ret
    exact ⟨rfl, ⟨row, wr, h⟩, Keep.refl _ _, rfl⟩
  · have e1 : m.arm n = ({ m with armed := true, left := n }, 0) := by unfold MemM.arm; rw [if_neg h0]
    rw [e1]
    have h1 : RMemAt ((w.setCell ⟨mb, 2, none⟩ (.bool true)).setCell ⟨mb, 3, none⟩ (.int .i64 n)) mb { m with armed := true, left := n } F row wr :=
      h.upd (((Keep.refl (fun x => x = mb) w).setCell (p := ⟨mb, 2, none⟩) (fun _ => rfl) _).setCell (p := ⟨mb, 3, none⟩) (fun _ => rfl) _) (by simpa [rmemCells] using (h.blk.set_ 2 (.bool true)).set_ 3 (.int .i64 n)) rfl ⟨by simp only; omega, by simp only; omega⟩
    have hk1 : Keep F w ((w.setCell ⟨mb, 2, none⟩ (.bool true)).setCell ⟨mb, 3, none⟩ (.int .i64 n)) := ((Keep.refl F w).setCell (p := ⟨mb, 2, none⟩) (fun _ => h.fb) _).setCell (p := ⟨mb, 3, none⟩) (fun _ => h.fb) _
    go_enter Tryz.func69, Tryz.ntmps69
    go_wp2_with fail
    go_ret
    exact ⟨rfl, ⟨row, wr, h1⟩, hk1, by simp [World.setCell]⟩
theorem rmemOn_any (mb : Nat) (m : MemM) (F : Nat → Prop) (w : World) (h : RMemIs w mb m F) :
    Calls Tryz.prog 116 #[.pointer (some ⟨mb, 0, none⟩)] w fun e w' => e = .returned (.tuple #[]) ∧ RMemTo w mb m.on F w' := by
  obtain ⟨row, wr, h⟩ := h
  have hc := h.blk.cell
  have hf := h.blk.frozen
  unfold rmemCells at hc
  have h2 : RMemAt ((w.setCell ⟨mb, 1, none⟩ (.bool false)).setCell ⟨mb, 2, none⟩ (.bool false)) mb m.on F row wr :=
    h.upd (((Keep.refl (fun x => x = mb) w).setCell (p := ⟨mb, 1, none⟩) (fun _ => rfl) _).setCell (p := ⟨mb, 2, none⟩) (fun _ => rfl) _) (by simpa [rmemCells, MemM.on] using (h.blk.set_ 1 (.bool false)).set_ 2 (.bool false)) rfl h.left
  have hk2 : Keep F w ((w.setCell ⟨mb, 1, none⟩ (.bool false)).setCell ⟨mb, 2, none⟩ (.bool false)) := ((Keep.refl F w).setCell (p := ⟨mb, 1, none⟩) (fun _ => h.fb) _).setCell (p := ⟨mb, 2, none⟩) (fun _ => h.fb) _
  go_enter Tryz.func116, Tryz.ntmps116
  go_wp2_with fail
  go_end0
  exact ⟨rfl, ⟨row, wr, h2⟩, hk2, by simp [World.setCell]⟩
theorem rmemSet {w : World} {mb g c : Nat} {m m' : MemM} {F : Nat → Prop} {wr wr' : Int} (h : RMemAt w mb m F (.slice (some ⟨g, 0, none⟩) m.b.length c) wr) (i : Nat) (x : UInt8) {W : World} (hW : RMemAt W mb m' F (.slice (some ⟨g, 0, none⟩) m.b.length c) wr') (hb : m'.b = m.b) : RMemAt (W.setCell ⟨g, i, none⟩ (.int .u8 (x.toNat : Int))) mb { m' with b := m'.b.set i x } F (.slice (some ⟨g, 0, none⟩) m.b.length c) wr' := by
  have hne : mb ≠ g := fun e => own_ne hW.bytes hW.blk (by decide) (by rw [e]; simp [Value.ownBlock])
  have hown := hW.bytes
  rw [hb] at hown
  have h2 := own_set1 hown i (.int .u8 (x.toNat : Int))
  exact { blk := hW.blk.far (p := ⟨g, i, none⟩) hne _, bytes := by simpa [u8c, List.map_set, hb] using h2, fb := hW.fb, fr := hW.fr, len := by simpa using hW.len, left := hW.left }
theorem rmemWrite_any (mb : Nat) (m : MemM) (F : Nat → Prop) (i : Nat) (x : UInt8) (w : World) (h : RMemIs w mb m F) (hi : i < m.b.length) :
    Calls Tryz.prog 92 #[.pointer (some ⟨mb, 0, none⟩), .int .i64 i, .int .u8 (x.toNat : Int)] w fun e w' => e = .returned (.int .i64 (m.write i x).2) ∧ RMemTo w mb (m.write i x).1 F w' := by
  obtain ⟨row, wr, h⟩ := h
  obtain ⟨A, c, rfl⟩ := own_slice h.bytes
  have hlen := h.len
  have hc := h.blk.cell
  have hf := h.blk.frozen
  unfold rmemCells at hc
  obtain ⟨g, rfl, hcell⟩ := own_cell1 h.bytes (by omega)
  have hgv := hcell i hi
  have hgf := (own_at (k := i) h.bytes).1
  have hne : mb ≠ g := fun e => own_ne h.bytes h.blk (by decide) (by rw [e]; simp [Value.ownBlock])
  have hFg : F g := h.fr g (by simp [Value.ownBlock])
  have hil : ¬ m.b.length ≤ i := by omega
  clear hcell
  cases ho : m.off with
  | true =>
    rw [ho] at hc
    have e1 : m.write i x = (m, 70) := by unfold MemM.write; rw [if_pos ho]
    rw [e1]
    go_enter Tryz.func92, Tryz.ntmps92
    go_wp2_with fail
    go_ret
    exact ⟨rfl, ⟨_, wr, h⟩, Keep.refl _ _, rfl⟩
  | false =>
    rw [ho] at hc
    cases ha : m.armed with
    | true =>
      by_cases h0 : m.left = 0
      · have e1 : m.write i x = ({ m with off := true }, 70) := by unfold MemM.write; rw [if_neg (by simp [ho]), if_neg hil, if_pos (by simp [ha, h0])]
        rw [e1]
        have h1 : RMemAt (w.setCell ⟨mb, 1, none⟩ (.bool true)) mb { m with off := true } F (.slice (some ⟨g, 0, none⟩) m.b.length c) wr :=
          h.upd ((Keep.refl (fun x => x = mb) w).setCell (p := ⟨mb, 1, none⟩) (fun _ => rfl) _) (by simpa [rmemCells] using h.blk.set_ 1 (.bool true)) rfl h.left
        have hk1 : Keep F w (w.setCell ⟨mb, 1, none⟩ (.bool true)) := (Keep.refl F w).setCell (p := ⟨mb, 1, none⟩) (fun _ => h.fb) _
        rw [ha, h0] at hc
        go_enter Tryz.func92, Tryz.ntmps92
        go_wp2_with fail
        go_ret
        exact ⟨rfl, ⟨_, wr, h1⟩, hk1, by simp [World.setCell]⟩
      · have e1 : m.write i x = ({ m with left := m.left - 1, b := m.b.set i x, writes := m.writes + 1 }, 0) := by unfold MemM.write; rw [if_neg (by simp [ho]), if_neg hil, if_neg (by simp [h0])]; simp [ha]
        rw [e1]
        have hlf := h.left
        have hlw : IntKind.i64.wrap (m.left - 1) = m.left - 1 := IntWalk.i64_in _ (by omega)
        have g0 : (m.left == 0) = false := by simpa using h0
        have h1 : RMemAt (w.setCell ⟨mb, 3, none⟩ (.int .i64 (m.left - 1))) mb { m with left := m.left - 1 } F (.slice (some ⟨g, 0, none⟩) m.b.length c) wr :=
          h.upd ((Keep.refl (fun x => x = mb) w).setCell (p := ⟨mb, 3, none⟩) (fun _ => rfl) _) (by simpa [rmemCells] using h.blk.set_ 3 (.int .i64 (m.left - 1))) rfl (by simp only; omega)
        have h2 := rmemSet h i x h1 rfl
        have h3 : RMemAt (((w.setCell ⟨mb, 3, none⟩ (.int .i64 (m.left - 1))).setCell ⟨g, i, none⟩ (.int .u8 (x.toNat : Int))).setCell ⟨mb, 4, none⟩ (.int .i64 (wrap64 (wr + 1)))) mb { m with left := m.left - 1, b := m.b.set i x, writes := m.writes + 1 } F (.slice (some ⟨g, 0, none⟩) m.b.length c) (wrap64 (wr + 1)) := by
          have hz : (m.b.set i x).length = m.b.length := List.length_set
          have := RMemAt.upd (m' := { m with left := m.left - 1, b := m.b.set i x, writes := m.writes + 1 }) (wr' := wrap64 (wr + 1)) h2 ((Keep.refl (fun x => x = mb) _).setCell (p := ⟨mb, 4, none⟩) (fun _ => rfl) (.int .i64 (wrap64 (wr + 1)))) (by simpa [rmemCells] using h2.blk.set_ 4 (.int .i64 (wrap64 (wr + 1)))) rfl (by simp only; omega)
          exact this
        have hk3 : Keep F w (((w.setCell ⟨mb, 3, none⟩ (.int .i64 (m.left - 1))).setCell ⟨g, i, none⟩ (.int .u8 (x.toNat : Int))).setCell ⟨mb, 4, none⟩ (.int .i64 (wrap64 (wr + 1)))) :=
          (((Keep.refl F w).setCell (p := ⟨mb, 3, none⟩) (fun _ => h.fb) _).setCell (p := ⟨g, i, none⟩) (fun _ => hFg) _).setCell (p := ⟨mb, 4, none⟩) (fun _ => h.fb) _
        rw [ha] at hc
        go_enter Tryz.func92, Tryz.ntmps92
        go_wp2_with fail
        go_ret
        rw [ho, ha] at h3
        exact ⟨rfl, ⟨_, _, h3⟩, hk3, by simp [World.setCell]⟩
    | false =>
      have e1 : m.write i x = ({ m with left := m.left, b := m.b.set i x, writes := m.writes + 1 }, 0) := by unfold MemM.write; rw [if_neg (by simp [ho]), if_neg hil, if_neg (by simp [ha])]; simp [ha]
      rw [e1]
      have h2 := rmemSet h i x h rfl
      have h3 : RMemAt ((w.setCell ⟨g, i, none⟩ (.int .u8 (x.toNat : Int))).setCell ⟨mb, 4, none⟩ (.int .i64 (wrap64 (wr + 1)))) mb { m with left := m.left, b := m.b.set i x, writes := m.writes + 1 } F (.slice (some ⟨g, 0, none⟩) m.b.length c) (wrap64 (wr + 1)) := by
        have := RMemAt.upd (m' := { m with left := m.left, b := m.b.set i x, writes := m.writes + 1 }) (wr' := wrap64 (wr + 1)) h2 ((Keep.refl (fun x => x = mb) _).setCell (p := ⟨mb, 4, none⟩) (fun _ => rfl) (.int .i64 (wrap64 (wr + 1)))) (by simpa [rmemCells] using h2.blk.set_ 4 (.int .i64 (wrap64 (wr + 1)))) rfl h.left
        exact this
      have hk3 : Keep F w ((w.setCell ⟨g, i, none⟩ (.int .u8 (x.toNat : Int))).setCell ⟨mb, 4, none⟩ (.int .i64 (wrap64 (wr + 1)))) :=
        ((Keep.refl F w).setCell (p := ⟨g, i, none⟩) (fun _ => hFg) _).setCell (p := ⟨mb, 4, none⟩) (fun _ => h.fb) _
      rw [ha] at hc
      go_enter Tryz.func92, Tryz.ntmps92
      go_wp2_with fail
      go_ret
      exact ⟨rfl, ⟨_, _, h3⟩, hk3, by simp [World.setCell]⟩
end Go.Proofs.YtbkkfkbgcklkgaaGreat
/- The reference's Decode (parapetref04). -/
namespace Go.Proofs.YtbkkfkbgcklkgaaGreat
open Go.RowKit
set_option maxHeartbeats 10000000
set_option maxRecDepth 100000

theorem r4word_at (i : Nat) (ad : Addr) (n m c B : Nat) (l : List UInt8) (w : World) (hi : 0 < i) (hm : 4 ≤ m) (him : i + 4 ≤ n) (h : Reads w B 1 (some ad) n (u8c l)) :
    Calls Tryz.prog 71 #[.slice (some ⟨ad.block, ad.off + i, none⟩) m c] w fun e w' => e = .returned (.int .u32 (numAt l i)) ∧ ∃ k, w' = w.drewN k := by
  have e : ad.add i = ⟨ad.block, ad.off + i, none⟩ := by unfold Addr.add; rw [if_neg (by omega)]
  have g : ∀ j, (⟨ad.block, ad.off + i, none⟩ : Addr).add j = ad.add (i + j) := fun j => by rw [← e, add_of_add]
  refine r4word_any _ m c (l.getD i 0) (l.getD (i + 1) 0) (l.getD (i + 2) 0) (l.getD (i + 3) 0) w hm ?_ ?_ ?_ ?_ <;> rw [g]
  · exact h.byte (i + 0) (by omega)
  · exact h.byte (i + 1) (by omega)
  · exact h.byte (i + 2) (by omega)
  · exact h.byte (i + 3) (by omega)
theorem cut_mid (ad : Addr) (i j m c : Nat) (hi : 0 < i) (hij : i ≤ j) (hjc : j ≤ c) (hc : ¬ c = i) (W : World) : (Instr.slice 41 (.slice (some ad) m c) (some (.int .i64 (i : Int))) (some (.int .i64 (j : Int))) none).run Tryz.prog W = .ok (.slice (some ⟨ad.block, ad.off + i, none⟩) (j - i) (c - i)) W := by
  rw [run_slice_lh (P := Tryz.prog) (w := W) 41 _ _ _ (by kernel_rfl) .i64 .i64 i j (by omega) (by omega) (by omega)]
  have hs : (sizeOf ((Tryz.prog).elem 41)).run Tryz.prog W = .ok 1 W := by kernel_rfl
  rw [hs]
  have hi0 : ¬ i = 0 := by omega
  simp [Result.andThen, sliced, hc, Addr.add, hi0]
/-- The zero unit with a fault, behind its store. -/
theorem r4zero {w : World} {g : Nat} (h : Blk w g 68 #[.int .i64 0, .int .u32 0, .int .u32 0, .int .u32 0, .int .i64 0, .slice none 0 0]) {B : Nat} {w0 : World} (hb : Below B w0 w) (hg : B ≤ g) :
    Blk ((((((w.setCell ⟨g, 0, none⟩ (.int .i64 0)).setCell ⟨g, 1, none⟩ (.int .u32 0)).setCell ⟨g, 2, none⟩ (.int .u32 0)).setCell ⟨g, 3, none⟩ (.int .u32 0)).setCell ⟨g, 4, none⟩ (.int .i64 0)).setCell ⟨g, 5, none⟩ (.slice none 0 0)) g 68 #[.int .i64 0, .int .u32 0, .int .u32 0, .int .u32 0, .int .i64 0, .slice none 0 0] ∧
    Below B w0 ((((((w.setCell ⟨g, 0, none⟩ (.int .i64 0)).setCell ⟨g, 1, none⟩ (.int .u32 0)).setCell ⟨g, 2, none⟩ (.int .u32 0)).setCell ⟨g, 3, none⟩ (.int .u32 0)).setCell ⟨g, 4, none⟩ (.int .i64 0)).setCell ⟨g, 5, none⟩ (.slice none 0 0)) :=
  ⟨h.store6 _ _ _ _ _ _, below_store6 hb hg _ _ _ _ _ _⟩
theorem r4decode_any (A : Option Addr) (n c B : Nat) (l : List UInt8) (w : World) (hr : Reads w B 1 A n (u8c l)) (hB : B ≤ w.heap.size) (hc : n ≤ c) :
    Calls Tryz.prog 33 #[.slice A n c] w fun e w' => ∃ v, e = .returned (.tuple #[unitVal (decodeM l).1 v, .int .i64 (decodeM l).2]) ∧ w'.ownsRow w.heap.size 5 1 v (decodeM l).1.data.length (u8c (decodeM l).1.data) ∧ Below w.heap.size w w' := by
  have hl : l.length = n := by have := hr.1; simpa [u8c] using this
  have hbz : Below w.heap.size w (w.alloc (.cells #[.int .i64 0, .int .u32 0, .int .u32 0, .int .u32 0, .int .i64 0, .slice none 0 0] 68)) := (Below.refl _ _).alloc (Nat.le_refl _) _
  have hz0 := Blk.new w 68 #[.int .i64 0, .int .u32 0, .int .u32 0, .int .u32 0, .int .i64 0, .slice none 0 0]
  have hrz := hr.alloc hB (.cells #[.int .i64 0, .int .u32 0, .int .u32 0, .int .u32 0, .int .i64 0, .slice none 0 0] 68)
  have hs0 := hbz.size
  obtain ⟨g, Hg⟩ : ∃ g, Hid (g = w.heap.size) := ⟨_, Lib.hid rfl⟩
  have hgw : w.heap.size ≤ g := by have := Hg.out; omega
  by_cases h19 : n < 19
  · have e : decodeM l = (.zero, 40) := by unfold decodeM; rw [if_pos (by omega)]
    rw [e]
    clear e
    go_enter Tryz.func33, Tryz.ntmps33
    go_upto_region 1 with fail
    rw [← Hg.out] at hz0 ⊢
    generalize w.alloc (.cells #[.int .i64 0, .int .u32 0, .int .u32 0, .int .u32 0, .int .i64 0, .slice none 0 0] 68) = W0 at *
    have hcz := hz0.cell
    have hfz := hz0.frozen
    go_wp2_with fail
    obtain ⟨hB3, hb3⟩ := r4zero hz0 hbz hgw
    clear hcz hfz
    generalize (((((W0.setCell ⟨g, 0, none⟩ _).setCell ⟨g, 1, none⟩ _).setCell ⟨g, 2, none⟩ _).setCell ⟨g, 3, none⟩ _).setCell ⟨g, 4, none⟩ _).setCell ⟨g, 5, none⟩ _ = W3 at *
    have hcz := hB3.cell
    refine bodyPost_ret (v := .tuple #[unitVal .zero (.slice none 0 0), .int .i64 40]) (by simp [results, Tryz.results33, go_sem, unitVal, UnitM.zero, hcz]) rfl ⟨_, rfl, World.ownsRow_nil _ _ _ _, hb3⟩
  by_cases h27 : 27 < n
  · have e : decodeM l = (.zero, 41) := by unfold decodeM; rw [if_neg (by omega), if_pos (by omega)]
    rw [e]
    clear e
    go_enter Tryz.func33, Tryz.ntmps33
    go_upto_region 1 with fail
    rw [← Hg.out] at hz0 ⊢
    generalize w.alloc (.cells #[.int .i64 0, .int .u32 0, .int .u32 0, .int .u32 0, .int .i64 0, .slice none 0 0] 68) = W0 at *
    have hcz := hz0.cell
    have hfz := hz0.frozen
    go_wp2_with fail
    obtain ⟨hB3, hb3⟩ := r4zero hz0 hbz hgw
    clear hcz hfz
    generalize (((((W0.setCell ⟨g, 0, none⟩ _).setCell ⟨g, 1, none⟩ _).setCell ⟨g, 2, none⟩ _).setCell ⟨g, 3, none⟩ _).setCell ⟨g, 4, none⟩ _).setCell ⟨g, 5, none⟩ _ = W3 at *
    have hcz := hB3.cell
    refine bodyPost_ret (v := .tuple #[unitVal .zero (.slice none 0 0), .int .i64 41]) (by simp [results, Tryz.results33, go_sem, unitVal, UnitM.zero, hcz]) rfl ⟨_, rfl, World.ownsRow_nil _ _ _ _, hb3⟩
  obtain ⟨ad, rfl⟩ : ∃ ad, A = some ad := by
    obtain ⟨ad, h, _⟩ := hr.2 (by omega)
    exact ⟨ad, h⟩
  have hadB : ad.block < B := by
    obtain ⟨ad', e, h, _⟩ := hr.2 (by omega)
    injection e with e
    rw [e]
    exact h
  obtain ⟨n', rfl⟩ : ∃ n', n = n' + 19 := ⟨n - 19, by omega⟩
  obtain ⟨p, a0, a1, a2, a3, hl4, hpl⟩ := four_of (n := n' + 15) hl
  have hval := fun (W : World) hr' hb' => rvalid_any ad (n' + 19) (n' + 15) c p a0 a1 a2 a3 B W rfl hpl hr' hb' hc (by omega)
  rw [← hl4] at hval
  clear hl4 hpl
  cases hcrc : (crcOf 0#32 l == 0#32) with
  | false =>
    have hcrc' : crcOf 0#32 l ≠ 0#32 := by simpa using hcrc
    have e : decodeM l = (.zero, 42) := by unfold decodeM; rw [if_neg (by omega), if_neg (by omega), if_pos hcrc']
    rw [e]
    rw [hcrc] at hval
    clear e hcrc' hcrc
    go_enter Tryz.func33, Tryz.ntmps33
    go_wp2_with fail
    refine (hval _ hrz (by omega)).mono ?_
    rintro e W0 ⟨rfl, hbv⟩
    rw [← Hg.out] at hz0 ⊢
    replace hz0 := hz0.below hbv hz0.lt
    replace hbz := hbz.trans (hbv.mono hbz.size)
    clear hbv hrz hval
    have hcz := hz0.cell
    have hfz := hz0.frozen
    go_wp2_with fail
    obtain ⟨hB3, hb3⟩ := r4zero hz0 hbz hgw
    clear hcz hfz
    generalize (((((W0.setCell ⟨g, 0, none⟩ _).setCell ⟨g, 1, none⟩ _).setCell ⟨g, 2, none⟩ _).setCell ⟨g, 3, none⟩ _).setCell ⟨g, 4, none⟩ _).setCell ⟨g, 5, none⟩ _ = W3 at *
    have hcz := hB3.cell
    refine bodyPost_ret (v := .tuple #[unitVal .zero (.slice none 0 0), .int .i64 42]) (by simp [results, Tryz.results33, go_sem, unitVal, UnitM.zero, hcz]) rfl ⟨_, rfl, World.ownsRow_nil _ _ _ _, hb3⟩
  | true =>
    rw [hcrc] at hval
    have hn8 : n' ≤ 8 := by omega
    obtain ⟨dm, Hdm⟩ : ∃ d, Hid (d = decodeM l) := ⟨_, Lib.hid rfl⟩
    obtain ⟨b0, Hb0⟩ : ∃ b, Hid (b = l.getD 0 0) := ⟨_, Lib.hid rfl⟩
    obtain ⟨b13, Hb13⟩ : ∃ b, Hid (b = l.getD 13 0) := ⟨_, Lib.hid rfl⟩
    obtain ⟨b14, Hb14⟩ : ∃ b, Hid (b = l.getD 14 0) := ⟨_, Lib.hid rfl⟩
    rw [← Hdm.out]
    have Hcrc := Lib.hid hcrc
    go_enter Tryz.func33, Tryz.ntmps33
    go_wp2_with fail
    refine (hval _ hrz (by omega)).mono ?_
    rintro e W2 ⟨rfl, hbv⟩
    rw [← Hg.out] at hz0 ⊢
    have hz2 := hz0.below hbv hz0.lt
    have hb2 := hbz.trans (hbv.mono hbz.size)
    have hr2 := hrz.below (hbv.mono (by simp; omega))
    have hs2 := hz2.lt
    clear hbv hrz hval hz0 hbz hr hcrc hs0
    go_upto_region 7 with fail
    have hsW := hb2.size
    go_cut [4] from 18 to 66 (fun v4 wc => ∃ g5, v4 = .pointer (some ⟨g5, 0, none⟩) ∧ g < g5 ∧ Blk wc g5 68 #[.int .i64 (b0.toNat : Int), .int .u32 (numAt l 1), .int .u32 (numAt l 5), .int .u32 (numAt l 9), .int .i64 (b13.toNat : Int), .slice none 0 0] ∧
      Blk wc g 68 #[.int .i64 0, .int .u32 0, .int .u32 0, .int .u32 0, .int .i64 0, .slice none 0 0] ∧ Reads wc B 1 (some ad) (n' + 19) (u8c l) ∧ Below w.heap.size w wc)
    case first =>
      have i0 : (0 : Int) < (n' : Int) + 19 := by omega
      have i13 : (13 : Int) < (n' : Int) + 19 := by omega
      have i1 : (1 : Int) ≤ (n' : Int) + 19 := by omega
      have i5 : (5 : Int) ≤ (n' : Int) + 19 := by omega
      have i9 : (9 : Int) ≤ (n' : Int) + 19 := by omega
      have c1 : ¬ c = 1 := by omega
      have c5 : ¬ c = 5 := by omega
      have c9 : ¬ c = 9 := by omega
      have ic : ((n' : Int) + 19) ≤ (c : Int) := by omega
      have x1 : ∀ W, (Instr.slice 41 (.slice (some ad) (n' + 19) c) (some (.int .i64 1)) (some (.int .i64 5)) none).run Tryz.prog W = .ok (.slice (some ⟨ad.block, ad.off + 1, none⟩) 4 (c - 1)) W := fun W => cut_mid ad 1 5 (n' + 19) c (by omega) (by omega) (by omega) (by omega) W
      have x5 : ∀ W, (Instr.slice 41 (.slice (some ad) (n' + 19) c) (some (.int .i64 5)) (some (.int .i64 9)) none).run Tryz.prog W = .ok (.slice (some ⟨ad.block, ad.off + 5, none⟩) 4 (c - 5)) W := fun W => cut_mid ad 5 9 (n' + 19) c (by omega) (by omega) (by omega) (by omega) W
      have x9 : ∀ W, (Instr.slice 41 (.slice (some ad) (n' + 19) c) (some (.int .i64 9)) (some (.int .i64 13)) none).run Tryz.prog W = .ok (.slice (some ⟨ad.block, ad.off + 9, none⟩) 4 (c - 9)) W := fun W => cut_mid ad 9 13 (n' + 19) c (by omega) (by omega) (by omega) (by omega) W
      have hwr0 : IntKind.i64.wrap (b0.toNat : Int) = (b0.toNat : Int) := by have := b0.toNat_lt; exact IntWalk.i64_in _ (by omega)
      have hwr13 : IntKind.i64.wrap (b13.toNat : Int) = (b13.toNat : Int) := by have := b13.toNat_lt; exact IntWalk.i64_in _ (by omega)
      have hBW0 : B ≤ W2.heap.size := by omega
      have hBW := size_drew hBW0
      have hr0 := hr2
      have hz0 := hz2
      have hb0 := hb2
      replace hr2 := hr2.drew
      replace hz2 := hz2.drew
      replace hb2 := hb2.drew
      have p13 : 13 < n' + 19 := by omega
      go_wp2_with fail
      go_region_held3 (fun w' => w'.cell? ad = some (.int .u8 (b0.toNat : Int)) ∧ w'.cell? ⟨ad.block, ad.off + 13, none⟩ = some (.int .u8 (b13.toNat : Int))) (with_reducible (first | exact hr2.two p13 Hb0 Hb13 | exact (hr2.alloc hBW _).two p13 Hb0 Hb13 | exact (hr0.alloc hBW0 _).drew.two p13 Hb0 Hb13 | exact (hr2.store6 hBN _ _ _ _ _ _).two p13 Hb0 Hb13)) (first
        | (go_at_call 71; refine (r4word_at _ ad (n' + 19) _ _ B l _ ?_ ?_ ?_ ?_).mono ?_; omega; omega; omega; with_reducible exact hr2; rintro e W ⟨rfl, k1, hW⟩; replace hz2 := hz2.same (Same.of hW (Same.refl _)); replace hb2 := below_same hb2 (Same.of hW (Same.refl _)); replace hBW := size_same hBW (Same.of hW (Same.refl _)); (try (replace hN := hN.same (Same.of hW (Same.refl _)); replace hNc := hN.cell; replace hNf := hN.frozen)); replace hr2 := hr2.same (Same.of hW (Same.refl _)); clear hW)
        | (go_at_call 71; refine (r4word_at _ ad (n' + 19) _ _ B l _ ?_ ?_ ?_ ?_).mono ?_; omega; omega; omega; with_reducible exact hr2.alloc hBW _; rintro e W ⟨rfl, k1, hW⟩; have hBN := hBW; have hgN := hz2.lt; have hgW := hb2.size; replace hz2 := (hz2.alloc _).same (Same.of hW (Same.refl _)); replace hb2 := below_same (hb2.alloc hb2.size _) (Same.of hW (Same.refl _)); have hN := (Blk.new _ 68 #[.int .i64 0, .int .u32 0, .int .u32 0, .int .u32 0, .int .i64 0, .slice none 0 0]).same (Same.of hW (Same.refl _)); have hNc := hN.cell; have hNf := hN.frozen; replace hr2 := (hr2.alloc hBW _).same (Same.of hW (Same.refl _)); replace hBW := size_same (size_alloc hBW _) (Same.of hW (Same.refl _)); clear hW)
        | (go_at_call 71; refine (r4word_at _ ad (n' + 19) _ _ B l _ ?_ ?_ ?_ ?_).mono ?_; omega; omega; omega; with_reducible exact (hr0.alloc hBW0 _).drew; rintro e W ⟨rfl, k1, hW⟩; have hBN := hBW0; have hgN := hz0.lt; have hgW := hb0.size; replace hz2 := ((hz0.alloc _).drew).same (Same.of hW (Same.refl _)); replace hb2 := below_same ((hb0.alloc hb0.size _).drew) (Same.of hW (Same.refl _)); have hN := ((Blk.new _ 68 #[.int .i64 0, .int .u32 0, .int .u32 0, .int .u32 0, .int .i64 0, .slice none 0 0]).drew).same (Same.of hW (Same.refl _)); have hNc := hN.cell; have hNf := hN.frozen; replace hr2 := ((hr0.alloc hBW0 _).drew).same (Same.of hW (Same.refl _)); replace hBW := size_same (size_drew (size_alloc hBW0 _)) (Same.of hW (Same.refl _)); clear hW))
      all_goals (go_wp2_with fail; go_meet)
      all_goals first
        | exact ⟨_, rfl, hz2.lt, Blk.new _ _ _, hz2.alloc _, hr2.alloc hBW _, hb2.alloc hb2.size _⟩
        | exact ⟨_, rfl, hgN, hN.store6 _ _ _ _ _ _, hz2.far6 hgN _ _ _ _ _ _, hr2.store6 hBN _ _ _ _ _ _, below_store6 hb2 hgW _ _ _ _ _ _⟩
    case rest =>
      obtain ⟨g5, rfl, hg5, hB5, hz5, hr5, hb5⟩ := hcut
      obtain ⟨W5, rfl⟩ : ∃ W : World, W = wc := ⟨_, rfl⟩
      clear hb2 hr2 hs2 hz2 hsW
      obtain ⟨data, Hdata⟩ : ∃ d, Hid (d = (l.drop 15).take n') := ⟨_, Lib.hid rfl⟩
      have hdl : data.length = n' := by rw [Hdata.out, List.length_take, List.length_drop]; omega
      have hrd : Reads W5 B 1 (some ⟨ad.block, ad.off + 15, none⟩) n' (u8c data) := by
        have := hr5.sub 15 n' (by omega)
        rw [u8c_sub, ← Hdata.out] at this
        exact this
      have h14c : W5.cell? ⟨ad.block, ad.off + 14, none⟩ = some (.int .u8 (b14.toNat : Int)) := by
        have := hr5.byte 14 (by omega)
        rw [← Hb14.out] at this
        exact this
      have Hunit : Hid (unitOf l = ⟨b0.toNat, numAt l 1, numAt l 5, numAt l 9, b13.toNat, data⟩) := Lib.hid (by
        unfold unitOf
        rw [← Hb0.out, ← Hb13.out, Hdata.out, hl, show n' + 19 - 19 = n' by omega])
      have Hdm2 : Hid (dm = (if (if (unitOf l).lawful ≠ 43 ∧ (unitOf l).lawful ≠ 44 ∧ (b14.toNat) ≠ (unitOf l).data.length then 45 else (unitOf l).lawful) ≠ 0 then (.zero, (if (unitOf l).lawful ≠ 43 ∧ (unitOf l).lawful ≠ 44 ∧ (b14.toNat) ≠ (unitOf l).data.length then 45 else (unitOf l).lawful)) else (unitOf l, 0))) := Lib.hid (by
        have hc0 : ¬ crcOf 0#32 l ≠ 0#32 := by have := Hcrc.out; simpa using this
        rw [Hdm.out, Hb14.out]
        unfold decodeM
        rw [if_neg (by omega), if_neg (by omega), if_neg hc0])
      have Hdm3 : Hid (dm = (if (if (UnitM.mk b0.toNat (numAt l 1) (numAt l 5) (numAt l 9) b13.toNat data).lawful ≠ 43 ∧ (UnitM.mk b0.toNat (numAt l 1) (numAt l 5) (numAt l 9) b13.toNat data).lawful ≠ 44 ∧ ¬ b14.toNat = n' then 45 else (UnitM.mk b0.toNat (numAt l 1) (numAt l 5) (numAt l 9) b13.toNat data).lawful) ≠ 0 then (.zero, (if (UnitM.mk b0.toNat (numAt l 1) (numAt l 5) (numAt l 9) b13.toNat data).lawful ≠ 43 ∧ (UnitM.mk b0.toNat (numAt l 1) (numAt l 5) (numAt l 9) b13.toNat data).lawful ≠ 44 ∧ ¬ b14.toNat = n' then 45 else (UnitM.mk b0.toNat (numAt l 1) (numAt l 5) (numAt l 9) b13.toNat data).lawful)) else ((⟨b0.toNat, numAt l 1, numAt l 5, numAt l 9, b13.toNat, data⟩ : UnitM), 0))) := Lib.hid (by
        rw [Hdm2.out, Hunit.out, hdl])
      clear Hdm Hdm2 Hunit Hcrc hr5
      have n1 := numAt_nonneg l 5
      have n2 := numAt_nonneg l 9
      generalize numAt l 1 = q1 at *
      generalize numAt l 5 = q5 at *
      generalize numAt l 9 = q9 at *
      have hlaw := fun A c w => r4lawful_any ⟨b0.toNat, q1, q5, q9, b13.toNat, data⟩ A c w n1 n2
      unfold unitVal at hlaw
      simp only [hdl] at hlaw
      generalize (UnitM.mk b0.toNat q1 q5 q9 b13.toNat data).lawful = law at *
      obtain ⟨i0, hi0, hz0, hz1, hz2⟩ := info_parts byte_info
      have hw14 : IntKind.i64.wrap (b14.toNat : Int) = (b14.toNat : Int) := by have := b14.toNat_lt; exact IntWalk.i64_in _ (by omega)
      have hsz5 := hb5.size
      have hgl := hz5.lt
      have hg5l := hB5.lt
      have Hl := Lib.hid hl
      clear hl
      have hcn : n' + 15 ≤ c := by omega
      have x15 : ∀ W, (Instr.slice 41 (.slice (some ad) (n' + 19) c) (some (.int .i64 15)) (some (.int .i64 ((n' : Int) + 15))) none).run Tryz.prog W = .ok (.slice (some ⟨ad.block, ad.off + 15, none⟩) n' (c - 15)) W := fun W => by
        have := cut_mid ad 15 (n' + 15) (n' + 19) c (by omega) (by omega) hcn (by omega) W
        rw [Nat.add_sub_cancel] at this
        exact this
      go_wp2_with (at_builtin; refine wpList_append_any _ rfl (.tmp 36) (.tmp 41) _ rfl W5.heap.size 5 i0 _ 1 1 Tryz.underlying41 hi0 hz0 hz1 hz2 rfl (by omega) (.slice (some ⟨W5.heap.size, 0, none⟩) 0 0) 0 [] rfl (World.ownsRow_made W5 #[] 0 (Nat.le_refl _) (by unfold maxLen; omega) rfl) B (some ⟨ad.block, ad.off + 15, none⟩) n' (c - 15) (u8c data) rfl (hrd.alloc (by omega) _) (u8c_one _) (by unfold maxLen; omega) (by omega) (by simp) ?_; intro v6 w6 hown6 hg6 hat6; rw [Nat.zero_add, List.nil_append] at hown6; obtain ⟨A6, c6, rfl⟩ := own_slice hown6; have hb6 : Below W5.heap.size W5 w6 := ((Below.refl _ _).alloc (Nat.le_refl _) _).grown hg6 (by simp) (fun k hk => by simp [Value.ownBlock] at hk; omega); have hB6 := hB5.below hb6 hg5l; have hz6 := hz5.below hb6 hgl; have hc6 := hB6.cell; have hf6 := hB6.frozen)
      refine (hlaw _ _ _).mono ?_
      rintro e W7 ⟨rfl, hb7⟩
      have hB7 : Blk W7 g5 68 #[.int .i64 (b0.toNat : Int), .int .u32 q1, .int .u32 q5, .int .u32 q9, .int .i64 (b13.toNat : Int), .slice A6 n' c6] := by
        have := (hB6.set_ 5 (.slice A6 n' c6)).below hb7 (hB6.set_ 5 _).lt
        simpa using this
      have hz7 := (hz6.far (p := ⟨g5, 5, none⟩) (Nat.ne_of_lt hg5) (.slice A6 n' c6)).below hb7 (hz6.far (p := ⟨g5, 5, none⟩) (Nat.ne_of_lt hg5) _).lt
      have hb6' := hb5.trans (hb6.mono hsz5)
      have hb7' : Below w.heap.size w W7 := (hb6'.setCell (p := ⟨g5, 5, none⟩) (by simp; omega) (.slice A6 n' c6)).trans (hb7.mono (by simp [World.setCell]; exact hb6'.size))
      have hown7 : W7.ownsRow W5.heap.size 5 1 (.slice A6 n' c6) n' (u8c data) := by
        refine own_below (own_far hown6 (g := g5) (fun h => ?_) 5 _) hb7
        have := (hown6.lt _ h).1
        omega
      have h14d : W7.cell? ⟨ad.block, ad.off + 14, none⟩ = some (.int .u8 (b14.toNat : Int)) :=
        ((hb7'.cell (p := ⟨ad.block, ad.off + 14, none⟩) (Nat.lt_of_lt_of_le hadB hB)).trans (hb5.cell (p := ⟨ad.block, ad.off + 14, none⟩) (Nat.lt_of_lt_of_le hadB hB)).symm).trans h14c
      have hlt6 := hown6.lt
      have hc7 := hB7.cell
      have hz7c := hz7.cell
      have hf7 := hz7.frozen
      have i14 : (14 : Int) < (n' : Int) + 19 := by omega
      clear hb7 hB6 hz6 hb6 hb6' hown6 hlaw h14c hc6 hf6 hg6 hat6 hrd x15 hB5 hz5
      by_cases x43 : law = 43
      · subst x43
        go_wp2_with fail
        go_big_quiet (fail)
        have hq7 := hz7.drewN nq
        have hbq := belowN hb7' nq
        generalize W7.drewN nq = W8 at *
        clear hc7 hz7c hf7 h14d
        have hcz := hq7.cell
        have hcf := hq7.frozen
        go_wp2_with fail
        obtain ⟨hB9, hb9⟩ := r4zero hq7 hbq hgw
        clear hcz hcf
        generalize (((((W8.setCell ⟨g, 0, none⟩ _).setCell ⟨g, 1, none⟩ _).setCell ⟨g, 2, none⟩ _).setCell ⟨g, 3, none⟩ _).setCell ⟨g, 4, none⟩ _).setCell ⟨g, 5, none⟩ _ = W9 at *
        have hc9 := hB9.cell
        have hdm : dm = (.zero, 43) := by rw [Hdm3.out]; simp
        subst hdm
        refine bodyPost_ret (v := .tuple #[unitVal .zero (.slice none 0 0), .int .i64 43]) (by simp [results, Tryz.results33, go_sem, unitVal, UnitM.zero, hc9]) rfl ⟨_, rfl, World.ownsRow_nil _ _ _ _, hb9⟩
      have g43 : (law != 43) = true := by simpa using x43
      by_cases x44 : law = 44
      · subst x44
        go_wp2_with fail
        go_big_quiet (fail)
        have hq7 := hz7.drewN nq
        have hbq := belowN hb7' nq
        generalize W7.drewN nq = W8 at *
        clear hc7 hz7c hf7 h14d
        have hcz := hq7.cell
        have hcf := hq7.frozen
        go_wp2_with fail
        obtain ⟨hB9, hb9⟩ := r4zero hq7 hbq hgw
        clear hcz hcf
        generalize (((((W8.setCell ⟨g, 0, none⟩ _).setCell ⟨g, 1, none⟩ _).setCell ⟨g, 2, none⟩ _).setCell ⟨g, 3, none⟩ _).setCell ⟨g, 4, none⟩ _).setCell ⟨g, 5, none⟩ _ = W9 at *
        have hc9 := hB9.cell
        have hdm : dm = (.zero, 44) := by rw [Hdm3.out]; simp
        subst hdm
        refine bodyPost_ret (v := .tuple #[unitVal .zero (.slice none 0 0), .int .i64 44]) (by simp [results, Tryz.results33, go_sem, unitVal, UnitM.zero, hc9]) rfl ⟨_, rfl, World.ownsRow_nil _ _ _ _, hb9⟩
      have g44 : (law != 44) = true := by simpa using x44
      by_cases h14 : b14.toNat = n'
      · have hq14 : ((b14.toNat : Int) == (n' : Int)) = true := by simp; omega
        have hq14' : ((b14.toNat : Int) != (n' : Int)) = false := by simp; omega
        go_wp2_with fail
        go_big_quiet (fail)
        by_cases hl0 : law = 0
        · subst hl0
          have hq7 := hz7.drewN nq
          have hB7q := hB7.drewN nq
          have hbq := belowN hb7' nq
          have hownq := own_below hown7 (belowN (Below.refl W7.heap.size W7) nq)
          generalize W7.drewN nq = W8 at *
          clear hc7 hz7c hf7 h14d
          have hcz := hq7.cell
          have hcf := hq7.frozen
          have hc7 := hB7q.cell
          go_wp2_with fail
          have hB9 := hq7.store6 (.int .i64 (b0.toNat : Int)) (.int .u32 q1) (.int .u32 q5) (.int .u32 q9) (.int .i64 (b13.toNat : Int)) (.slice A6 n' c6)
          have hb9 := below_store6 hbq hgw (.int .i64 (b0.toNat : Int)) (.int .u32 q1) (.int .u32 q5) (.int .u32 q9) (.int .i64 (b13.toNat : Int)) (.slice A6 n' c6)
          have hfar : (Value.slice A6 n' c6).ownBlock ≠ some g := fun h => by have := (hlt6 g h).1; omega
          have hown9 := own_far (own_far (own_far (own_far (own_far (own_far hownq hfar 0 (.int .i64 (b0.toNat : Int))) hfar 1 (.int .u32 q1)) hfar 2 (.int .u32 q5)) hfar 3 (.int .u32 q9)) hfar 4 (.int .i64 (b13.toNat : Int))) hfar 5 (.slice A6 n' c6)
          clear hcz hcf hc7
          generalize (((((W8.setCell ⟨g, 0, none⟩ _).setCell ⟨g, 1, none⟩ _).setCell ⟨g, 2, none⟩ _).setCell ⟨g, 3, none⟩ _).setCell ⟨g, 4, none⟩ _).setCell ⟨g, 5, none⟩ _ = W9 at *
          have hc9 := hB9.cell
          have hdm : dm = (⟨b0.toNat, q1, q5, q9, b13.toNat, data⟩, 0) := by rw [Hdm3.out]; simp [h14]
          subst hdm
          refine bodyPost_ret (v := .tuple #[unitVal ⟨b0.toNat, q1, q5, q9, b13.toNat, data⟩ (.slice A6 n' c6), .int .i64 0]) (by simp [results, Tryz.results33, go_sem, unitVal, hc9]) rfl ⟨_, rfl, ?_, hb9⟩
          simp only [hdl]
          exact own_base hown9 hsz5
        · have hl0' : (law != 0) = true := by simpa using hl0
          have hq7 := hz7.drewN nq
          have hbq := belowN hb7' nq
          generalize W7.drewN nq = W8 at *
          clear hc7 hz7c hf7 h14d
          have hcz := hq7.cell
          have hcf := hq7.frozen
          go_wp2_with fail
          obtain ⟨hB9, hb9⟩ := r4zero hq7 hbq hgw
          clear hcz hcf
          generalize (((((W8.setCell ⟨g, 0, none⟩ _).setCell ⟨g, 1, none⟩ _).setCell ⟨g, 2, none⟩ _).setCell ⟨g, 3, none⟩ _).setCell ⟨g, 4, none⟩ _).setCell ⟨g, 5, none⟩ _ = W9 at *
          have hc9 := hB9.cell
          have hdm : dm = (.zero, law) := by rw [Hdm3.out]; simp [h14, hl0]
          subst hdm
          refine bodyPost_ret (v := .tuple #[unitVal .zero (.slice none 0 0), .int .i64 law]) (by simp [results, Tryz.results33, go_sem, unitVal, UnitM.zero, hc9]) rfl ⟨_, rfl, World.ownsRow_nil _ _ _ _, hb9⟩
      · have hq14 : ((b14.toNat : Int) == (n' : Int)) = false := by simp; omega
        have hq14' : ((b14.toNat : Int) != (n' : Int)) = true := by simp; omega
        go_wp2_with fail
        go_big_quiet (fail)
        have hq7 := hz7.drewN nq
        have hbq := belowN hb7' nq
        generalize W7.drewN nq = W8 at *
        clear hc7 hz7c hf7 h14d
        have hcz := hq7.cell
        have hcf := hq7.frozen
        go_wp2_with fail
        obtain ⟨hB9, hb9⟩ := r4zero hq7 hbq hgw
        clear hcz hcf
        generalize (((((W8.setCell ⟨g, 0, none⟩ _).setCell ⟨g, 1, none⟩ _).setCell ⟨g, 2, none⟩ _).setCell ⟨g, 3, none⟩ _).setCell ⟨g, 4, none⟩ _).setCell ⟨g, 5, none⟩ _ = W9 at *
        have hc9 := hB9.cell
        have hdm : dm = (.zero, 45) := by rw [Hdm3.out]; simp [x43, x44, h14]
        subst hdm
        refine bodyPost_ret (v := .tuple #[unitVal .zero (.slice none 0 0), .int .i64 45]) (by simp [results, Tryz.results33, go_sem, unitVal, UnitM.zero, hc9]) rfl ⟨_, rfl, World.ownsRow_nil _ _ _ _, hb9⟩
end Go.Proofs.YtbkkfkbgcklkgaaGreat
