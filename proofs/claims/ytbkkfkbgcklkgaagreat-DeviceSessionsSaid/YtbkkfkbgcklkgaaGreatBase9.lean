/- The base of the laws, part 9: contracts and plain lemmas, no statement. -/
import Derived.Test.YtbkkfkbgcklkgaaGreatBase8
/- A cell as the program opens it and counts: plain. -/
namespace Go.Proofs.YtbkkfkbgcklkgaaGreat
namespace MemM
/-- Put right as the program does: the memory, the word, the error. -/
def repair (m : MemM) : MemM × Int × Int :=
  if m.holds 0 then
    if m.holds 1 then (m, max (m.word 0) (m.word 1), 0) else ((m.writeSlot 1 (m.word 0)).1, m.word 0, (m.writeSlot 1 (m.word 0)).2)
  else if m.holds 1 then ((m.writeSlot 0 (m.word 1)).1, m.word 1, (m.writeSlot 0 (m.word 1)).2)
  else
    let a := if m.b.getD 0 0 = 0 then (m, 0) else m.write 0 0
    if a.2 ≠ 0 then (a.1, 0, a.2) else
    let c := if m.b.getD 5 0 = 0 then (a.1, 0) else a.1.write 5 0
    (c.1, 0, c.2)
theorem write_b (m : MemM) (i : Nat) (c : UInt8) : (m.write i c).1.b = m.b ∨ (m.write i c).1.b = m.b.set i c := by
  unfold write
  split
  · exact .inl rfl
  split
  · exact .inl rfl
  split
  · exact .inl rfl
  · exact .inr rfl
theorem write_far (m : MemM) (i j : Nat) (c : UInt8) (h : i ≠ j) : (m.write i c).1.b.getD j 0 = m.b.getD j 0 := by
  rcases m.write_b i c with e | e <;> rw [e]
  rw [getD_set8, if_neg (by omega)]
theorem top_both (m : MemM) (h0 : m.holds 0 = true) (h1 : m.holds 1 = true) : m.top = max (m.word 0) (m.word 1) := by
  have a := m.word_range 0
  have b := m.word_range 1
  unfold top
  simp only [h0, h1, Bool.true_and]
  by_cases c : 0 < m.word 0
  · simp only [c, decide_true, if_true]
    by_cases d : m.word 0 < m.word 1
    · simp only [d, decide_true, if_true]; omega
    · simp only [d, decide_false, Bool.false_eq_true, if_false]; omega
  · simp only [c, decide_false, Bool.false_eq_true, if_false]
    by_cases d : 0 < m.word 1
    · simp only [d, decide_true, if_true]; omega
    · simp only [d, decide_false, Bool.false_eq_true, if_false]; omega
theorem top_first (m : MemM) (h0 : m.holds 0 = true) (h1 : m.holds 1 = false) : m.top = m.word 0 := by
  have a := m.word_range 0
  unfold top
  simp only [h0, h1, Bool.true_and, Bool.false_and]
  by_cases c : 0 < m.word 0
  · simp [c]
  · simp [c]; omega
theorem top_second (m : MemM) (h0 : m.holds 0 = false) (h1 : m.holds 1 = true) : m.top = m.word 1 := by
  have a := m.word_range 1
  unfold top
  simp only [h0, h1, Bool.true_and, Bool.false_and]
  by_cases c : 0 < m.word 1
  · simp [c]
  · simp [c]; omega
theorem top_none (m : MemM) (h0 : m.holds 0 = false) (h1 : m.holds 1 = false) : m.top = 0 := by
  unfold top
  simp [h0, h1]
end MemM
theorem openM_repair (m : MemM) (mx : Int) (h : mx ≠ 0) (hb : 10 ≤ m.b.length) (ho : m.off = false) :
    openM m mx = (m.repair.1, if m.repair.2.2 = 0 then some ⟨mx, m.repair.2.1, false⟩ else none, m.repair.2.2) := by
  have e0 : ¬ (mx = 0 ∨ m.b.length < 10) := by omega
  unfold openM
  rw [if_neg e0, ho, if_neg (by simp)]
  cases h0 : m.holds 0 <;> cases h1 : m.holds 1
  · rw [m.top_none h0 h1]
    have em : m.mend 0 = if m.b.getD 0 0 = 0 then (m, 0) else m.write 0 0 := by
      unfold MemM.mend
      simp only [h0, show m.holds (1 - 0) = false from h1, Bool.not_false, Bool.and_false, Bool.false_eq_true, if_false, Bool.true_and, Nat.mul_zero]
      by_cases e : m.b.getD 0 0 = 0
      · rw [if_pos e, if_neg (by rw [e]; decide)]
      · rw [if_neg e, if_pos (by simpa using e)]
    have er : m.repair = (if (if m.b.getD 0 0 = 0 then (m, 0) else m.write 0 0).2 ≠ 0 then ((if m.b.getD 0 0 = 0 then (m, 0) else m.write 0 0).1, 0, (if m.b.getD 0 0 = 0 then (m, 0) else m.write 0 0).2) else
        ((if m.b.getD 5 0 = 0 then ((if m.b.getD 0 0 = 0 then (m, 0) else m.write 0 0).1, 0) else (if m.b.getD 0 0 = 0 then (m, 0) else m.write 0 0).1.write 5 0).1, 0, (if m.b.getD 5 0 = 0 then ((if m.b.getD 0 0 = 0 then (m, 0) else m.write 0 0).1, 0) else (if m.b.getD 0 0 = 0 then (m, 0) else m.write 0 0).1.write 5 0).2)) := by
      unfold MemM.repair
      simp only [h0, h1, Bool.false_eq_true, if_false]
    rw [er, em]
    have hA : (if m.b.getD 0 0 = 0 then (m, 0) else m.write 0 0).1.holds 0 = false ∧ (if m.b.getD 0 0 = 0 then (m, 0) else m.write 0 0).1.holds 1 = false ∧ (if m.b.getD 0 0 = 0 then (m, 0) else m.write 0 0).1.b.getD 5 0 = m.b.getD 5 0 := by
      split
      · exact ⟨h0, h1, rfl⟩
      · refine ⟨?_, ?_, m.write_far 0 5 0 (by omega)⟩
        · unfold MemM.holds
          rcases m.write_b 0 0 with e | e
          · rw [e]; exact h0
          · rw [e, getD_set8]
            split
            · rfl
            · exact h0
        · unfold MemM.holds
          rw [m.write_far 0 (5 * 1) 0 (by omega)]
          exact h1
    generalize (if m.b.getD 0 0 = 0 then (m, 0) else m.write 0 0) = a at hA ⊢
    obtain ⟨a1, a2, a3⟩ := hA
    obtain ⟨ma, ea⟩ := a
    simp only at *
    by_cases he : ea = 0
    · subst he
      have em1 : ma.mend 1 = if m.b.getD 5 0 = 0 then (ma, 0) else ma.write 5 0 := by
        unfold MemM.mend
        simp only [a2, show ma.holds (1 - 1) = false from a1, Bool.not_false, Bool.and_false, Bool.false_eq_true, if_false, Bool.true_and, Nat.mul_one]
        rw [a3]
        by_cases e : m.b.getD 5 0 = 0
        · rw [if_pos e, if_neg (by rw [e]; decide)]
        · rw [if_neg e, if_pos (by simpa using e)]
      simp only [ne_eq, not_true_eq_false, if_false, em1]
      generalize (if m.b.getD 5 0 = 0 then (ma, 0) else ma.write 5 0) = r
      obtain ⟨mr, err⟩ := r
      by_cases hr : err = 0
      · subst hr; simp
      · simp [hr]
    · simp [he]
  · rw [m.top_second h0 h1]
    have em : m.mend 0 = m.writeSlot 0 (m.word 1) := by
      unfold MemM.mend
      rw [if_pos (by rw [h0, show m.holds (1 - 0) = true from h1]; rfl)]
    have er : m.repair = ((m.writeSlot 0 (m.word 1)).1, m.word 1, (m.writeSlot 0 (m.word 1)).2) := by
      unfold MemM.repair
      simp only [h0, h1, Bool.false_eq_true, if_false, if_true]
    rw [er, em]
    have hs := m.word_range 1
    obtain ⟨_, s2, _, _⟩ := MemM.writeSlot_spec m 0 (m.word 1) (by omega) hs.1 hs.2 ho hb
    replace s2 : (m.writeSlot 0 (m.word 1)).1.holds 1 = true := s2.trans h1
    generalize m.writeSlot 0 (m.word 1) = r at *
    obtain ⟨mr, err⟩ := r
    simp only at *
    by_cases hr : err = 0
    · subst hr
      have em1 : mr.mend 1 = (mr, 0) := by
        unfold MemM.mend
        simp [s2]
      simp [em1]
    · simp [hr]
  · rw [m.top_first h0 h1]
    have em : m.mend 0 = (m, 0) := by
      unfold MemM.mend
      simp [h0]
    have em1 : m.mend 1 = m.writeSlot 1 (m.word 0) := by
      unfold MemM.mend
      rw [if_pos (by rw [h1, show m.holds (1 - 1) = true from h0]; rfl)]
    have er : m.repair = ((m.writeSlot 1 (m.word 0)).1, m.word 0, (m.writeSlot 1 (m.word 0)).2) := by
      unfold MemM.repair
      simp only [h0, h1, Bool.false_eq_true, if_false, if_true]
    rw [er, em]
    simp only [ne_eq, not_true_eq_false, if_false, em1]
    generalize m.writeSlot 1 (m.word 0) = r
    obtain ⟨mr, err⟩ := r
    by_cases hr : err = 0
    · subst hr; simp
    · simp [hr]
  · rw [m.top_both h0 h1]
    have em : ∀ k, k < 2 → m.mend k = (m, 0) := by
      intro k hk
      have hc : k = 0 ∨ k = 1 := by omega
      rcases hc with rfl | rfl <;> (unfold MemM.mend; simp [h0, h1])
    have er : m.repair = (m, max (m.word 0) (m.word 1), 0) := by
      unfold MemM.repair
      simp only [h0, h1, if_true]
    rw [er, em 0 (by omega)]
    simp [em 1 (by omega)]
end Go.Proofs.YtbkkfkbgcklkgaaGreat
/- cell's cell by its contracts: read, write. -/
namespace Go.Proofs.YtbkkfkbgcklkgaaGreat
open Go.RowKit
set_option maxHeartbeats 4000000
set_option maxRecDepth 100000

theorem byteOf_toNat (n : Int) : ((byteOf n).toNat : Int) = n % 256 := by
  unfold byteOf
  show ((BitVec.ofInt 8 n).toNat : Int) = n % 256
  rw [BitVec.toNat_ofInt]
  omega
theorem write_length (m : MemM) (i : Nat) (c : UInt8) : (m.write i c).1.b.length = m.b.length := by
  rcases m.write_b i c with e | e <;> rw [e]
  exact List.length_set
theorem memWrite_at (mb : Nat) (m : MemM) (F : Nat → Prop) (i : Nat) (x : UInt8) (j cv : Int) (w : World) (hj : j = (i : Int)) (hx : cv = (x.toNat : Int)) (h : MemIs w mb m F) (hi : i < m.b.length) :
    Calls Tryz.prog 128 #[.pointer (some ⟨mb, 0, none⟩), .int .i64 j, .int .u8 cv] w fun e w' => e = .returned (.int .i64 (m.write i x).2) ∧ MemTo w mb (m.write i x).1 F w' := by
  subst hj hx
  exact memWrite_any mb m F i x w h hi
theorem memRead_at (mb : Nat) (m : MemM) (F : Nat → Prop) (i : Nat) (j : Int) (w : World) (hj : j = (i : Int)) (h : MemIs w mb m F) (ho : m.off = false) (hi : i < m.b.length) :
    Calls Tryz.prog 126 #[.pointer (some ⟨mb, 0, none⟩), .int .i64 j] w fun e w' => e = .returned (.tuple #[.int .u8 ((m.b.getD i 0).toNat : Int), .int .i64 0]) ∧ w' = w := by
  subst hj
  have := memRead_any mb m F i w h hi
  rw [ho] at this
  simpa using this
/-- The first bytes of a word. -/
def wordTo (b : List UInt8) (s : Nat) : Nat → BitVec 32
  | 0 => 0
  | i + 1 => (wordTo b s i <<< 8) ||| (b.getD (s + i) 0).toBitVec.setWidth 32
theorem wordTo_step (b : List UInt8) (s i : Nat) : bits .or .u32 (((wordTo b s i).toNat : Int) * 256 % 4294967296) (((b.getD (s + i) 0).toNat : Int) % 4294967296) = ((wordTo b s (i + 1)).toNat : Int) := by
  rw [or32, up0]
  have : BitVec.ofInt 32 (((wordTo b s i).toNat : Int) * 256 % 4294967296) = wordTo b s i <<< 8 := by
    apply BitVec.eq_of_toNat_eq
    rw [BitVec.toNat_ofInt, BitVec.toNat_shiftLeft, Nat.shiftLeft_eq]
    omega
  rw [this]
  rfl
theorem shl_word (A B C D : BitVec 32) : ((((0#32 <<< 8 ||| A) <<< 8 ||| B) <<< 8 ||| C) <<< 8 ||| D) = ((A <<< 24 ||| B <<< 16) ||| C <<< 8) ||| D := by
  simp only [BitVec.shiftLeft_or_distrib, ← BitVec.shiftLeft_add, BitVec.zero_shiftLeft, BitVec.zero_or, Nat.reduceAdd]
theorem wordTo_all (m : MemM) (k : Nat) : ((wordTo m.b (5 * k + 1) 4).toNat : Int) = m.word k := by
  have e := shl_word ((m.b.getD (5 * k + 1) 0).toBitVec.setWidth 32) ((m.b.getD (5 * k + 1 + 1) 0).toBitVec.setWidth 32) ((m.b.getD (5 * k + 1 + 2) 0).toBitVec.setWidth 32) ((m.b.getD (5 * k + 1 + 3) 0).toBitVec.setWidth 32)
  rw [ofWord_or] at e
  unfold MemM.word numAt
  rw [← e]
  rfl
theorem cellRead_any (mb : Nat) (m : MemM) (F : Nat → Prop) (k : Nat) (kk : Int) (w : World) (hkk : kk = (k : Int)) (h : MemIs w mb m F) (ho : m.off = false) (hb : 10 ≤ m.b.length) (hk : k < 2) :
    Calls Tryz.prog 83 #[.pointer (some ⟨mb, 0, none⟩), .int .i64 kk] w fun e w' => e = .returned (.tuple #[.int .u8 ((m.b.getD (5 * k) 0).toNat : Int), .int .u32 (m.word k), .int .i64 0]) ∧ w' = w := by
  subst hkk
  have hw1 : IntKind.i64.wrap ((k : Int) * 5) = (k : Int) * 5 := IntWalk.i64_in _ (by omega)
  have hw2 : IntKind.i64.wrap ((k : Int) * 5 + 1) = (k : Int) * 5 + 1 := IntWalk.i64_in _ (by omega)
  have hrd := memRead_at mb m F (5 * k) ((k : Int) * 5) w (by omega) h ho (by omega)
  obtain ⟨mk, Hmk⟩ : ∃ x, Hid (x = ((m.b.getD (5 * k) 0).toNat : Int)) := ⟨_, Lib.hid rfl⟩
  rw [← Hmk.out] at hrd ⊢
  go_enter Tryz.func83, Tryz.ntmps83
  go_wp2_with fail
  refine hrd.mono ?_
  rintro e w1 ⟨rfl, rfl⟩
  go_wp2_with fail
  go_loop [8, 9, 20] (fun v8 v9 v20 => ∃ i : Nat, i ≤ 4 ∧ v8 = .int .i64 0 ∧ v9 = .int .u32 ((wordTo m.b (5 * k + 1) i).toNat : Int) ∧ v20 = .int .i64 i) (fun _ _ v20 => 4 - (intOf v20).toNat)
  case atStart => exact ⟨0, by omega, rfl, rfl, rfl⟩
  case round =>
    obtain ⟨i, hi, rfl, rfl, rfl⟩ := hrel
    by_cases hlt : i < 4
    · have hw3 : IntKind.i64.wrap ((k : Int) * 5 + 1 + (i : Int)) = (k : Int) * 5 + 1 + (i : Int) := IntWalk.i64_in _ (by omega)
      have Hs := Lib.hid (wordTo_step m.b (5 * k + 1) i)
      have hrd := memRead_at mb m F (5 * k + 1 + i) ((k : Int) * 5 + 1 + (i : Int)) w1 (by omega) h ho (by omega)
      generalize ((m.b.getD (5 * k + 1 + i) 0).toNat : Int) = c at hrd Hs
      go_wp2_with fail
      refine hrd.mono ?_
      rintro e w2 ⟨rfl, rfl⟩
      go_wp2_with fail
      go_round
      case rel => exact ⟨i + 1, by omega, rfl, by rw [← Hs.out], by go_num⟩
      case measure => simp [intOf]; omega
    · have hi4 : i = 4 := by omega
      subst hi4
      rw [wordTo_all]
      go_wp2_with fail
      refine bodyPost_ret (v := .tuple #[.int .u8 mk, .int .u32 (m.word k), .int .i64 0]) (by simp [results, Tryz.results83, go_sem]) rfl ⟨rfl, rfl⟩
theorem writeAll_cons (m : MemM) (x : Nat × UInt8) (l : List (Nat × UInt8)) : m.writeAll (x :: l) = if (m.write x.1 x.2).2 ≠ 0 then m.write x.1 x.2 else (m.write x.1 x.2).1.writeAll l := rfl
theorem slotBytes_drop (k : Nat) (x : Int) (i : Nat) (hi : i < 4) : (MemM.slotBytes k x).drop (i + 1) = (5 * k + 1 + i, byteOf (x / 2 ^ (24 - 8 * i))) :: (MemM.slotBytes k x).drop (i + 1 + 1) := by
  have hc : i = 0 ∨ i = 1 ∨ i = 2 ∨ i = 3 := by omega
  rcases hc with rfl | rfl | rfl | rfl <;> simp [MemM.slotBytes]
theorem cellWrite_any (mb : Nat) (m : MemM) (F : Nat → Prop) (k : Nat) (kk x : Int) (w : World) (hkk : kk = (k : Int)) (h : MemIs w mb m F) (hb : 10 ≤ m.b.length) (hk : k < 2) (hx : 0 ≤ x ∧ x < 4294967296) :
    Calls Tryz.prog 127 #[.pointer (some ⟨mb, 0, none⟩), .int .i64 kk, .int .u32 x] w fun e w' => e = .returned (.int .i64 (m.writeSlot k x).2) ∧ MemTo w mb (m.writeSlot k x).1 F w' := by
  subst hkk
  have hw1 : IntKind.i64.wrap ((k : Int) * 5) = (k : Int) * 5 := IntWalk.i64_in _ (by omega)
  have hw2 : IntKind.i64.wrap ((k : Int) * 5 + 1) = (k : Int) * 5 + 1 := IntWalk.i64_in _ (by omega)
  have e0 : m.writeSlot k x = if (m.write (5 * k) 0).2 ≠ 0 then m.write (5 * k) 0 else (m.write (5 * k) 0).1.writeAll ((MemM.slotBytes k x).drop 1) := rfl
  have hl0 := write_length m (5 * k) 0
  obtain ⟨q, Hq⟩ : ∃ q, Hid (q = m.writeSlot k x) := ⟨_, Lib.hid rfl⟩
  rw [← Hq.out]
  rw [← Hq.out] at e0
  have H0 := Lib.hid e0
  clear e0 Hq
  go_enter Tryz.func127, Tryz.ntmps127
  go_wp2_with fail
  refine (memWrite_at mb m F (5 * k) 0 _ _ w (by omega) rfl h (by omega)).mono ?_
  rintro e w1 ⟨rfl, t1⟩
  generalize m.write (5 * k) 0 = r at *
  obtain ⟨m1, e1⟩ := r
  simp only at *
  by_cases he : e1 = 0
  · subst he
    have Hq : Hid (q = m1.writeAll ((MemM.slotBytes k x).drop 1)) := Lib.hid (by rw [H0.out]; simp)
    clear H0
    obtain ⟨t1, k1, z1⟩ := t1
    have Hz1 := Lib.hid z1
    clear z1
    go_wp2_with fail
    go_loopw [17] (fun v17 wl => ∃ (i : Nat) (mi : MemM), i ≤ 4 ∧ v17 = .int .i64 i ∧ MemIs wl mb mi F ∧ mi.b.length = m.b.length ∧ Hid (q = mi.writeAll ((MemM.slotBytes k x).drop (i + 1))) ∧ Keep F w wl ∧ Hid (wl.heap.size = w.heap.size)) (fun v17 _ => 4 - (intOf v17).toNat)
    case atStart => exact ⟨0, m1, by omega, rfl, t1, hl0, Hq, k1, Hz1⟩
    case round =>
      obtain ⟨i, mi, hi, rfl, ti, hli, Hqi, ki, Hzi⟩ := hrel
      by_cases hlt : i < 4
      · have hw3 : IntKind.i64.wrap ((k : Int) * 5 + 1 + (i : Int)) = (k : Int) * 5 + 1 + (i : Int) := IntWalk.i64_in _ (by omega)
        have hw4 : IntKind.i64.wrap (8 * (i : Int)) = 8 * (i : Int) := IntWalk.i64_in _ (by omega)
        have hw5 : IntKind.i64.wrap (24 - 8 * (i : Int)) = 24 - 8 * (i : Int) := IntWalk.i64_in _ (by omega)
        have Hqi2 : Hid (q = if (mi.write (5 * k + 1 + i) (byteOf (x / 2 ^ (24 - 8 * i)))).2 ≠ 0 then mi.write (5 * k + 1 + i) (byteOf (x / 2 ^ (24 - 8 * i))) else (mi.write (5 * k + 1 + i) (byteOf (x / 2 ^ (24 - 8 * i)))).1.writeAll ((MemM.slotBytes k x).drop (i + 1 + 1))) := Lib.hid (by rw [Hqi.out, slotBytes_drop k x i hlt, writeAll_cons])
        have hb8 := byteOf_toNat (x / 2 ^ (24 - 8 * i))
        have hwl := write_length mi (5 * k + 1 + i) (byteOf (x / 2 ^ (24 - 8 * i)))
        have hcall := fun cv (hcv : cv = ((byteOf (x / 2 ^ (24 - 8 * i))).toNat : Int)) => memWrite_at mb mi F (5 * k + 1 + i) (byteOf (x / 2 ^ (24 - 8 * i))) ((k : Int) * 5 + 1 + (i : Int)) cv wr (by omega) hcv ti (by omega)
        rw [hb8] at hcall
        generalize mi.write (5 * k + 1 + i) (byteOf (x / 2 ^ (24 - 8 * i))) = r at *
        obtain ⟨m2, e2⟩ := r
        simp only at hcall hwl
        have Hqi3 : Hid (q = if e2 ≠ 0 then (m2, e2) else m2.writeAll ((MemM.slotBytes k x).drop (i + 1 + 1))) := Lib.hid Hqi2.out
        clear Hqi2 Hqi hb8
        go_wp2_with fail
        refine (hcall _ rfl).mono ?_
        rintro e w2 ⟨rfl, t2, k2, z2⟩
        have Hz2 := Lib.hid z2
        clear z2 hcall
        by_cases he : e2 = 0
        · subst he
          have Hq4 : Hid (q = m2.writeAll ((MemM.slotBytes k x).drop (i + 1 + 1))) := Lib.hid (by rw [Hqi3.out]; simp)
          clear Hqi3
          go_wp2_with fail
          go_round
          case rel => exact ⟨i + 1, m2, by omega, by go_num, t2, by omega, Hq4, ki.andThen k2 (fun _ _ h => h), Lib.hid (Hz2.out.trans Hzi.out)⟩
          case measure => simp [intOf]; omega
        · have Hq4 : Hid (q = (m2, e2)) := Lib.hid (by rw [Hqi3.out, if_pos he])
          have g1 : (e2 != 0) = true := by simpa using he
          clear Hqi3
          go_wp2_with fail
          go_ret
          rw [Hq4.out]
          exact ⟨rfl, t2, ki.andThen k2 (fun _ _ h => h), Hz2.out.trans Hzi.out⟩
      · have hi4 : i = 4 := by omega
        subst hi4
        have Hq4 : Hid (q = mi.write (5 * k) 0xa5) := Lib.hid (by
          rw [Hqi.out]
          show mi.writeAll [(5 * k, 0xa5)] = _
          rw [writeAll_cons]
          by_cases he : (mi.write (5 * k) 0xa5).2 = 0
          · rw [if_neg (by simpa using he)]
            exact Prod.ext rfl he.symm
          · rw [if_pos he])
        have hcall := memWrite_at mb mi F (5 * k) 0xa5 ((k : Int) * 5) 165 wr (by omega) rfl ti (by omega)
        generalize mi.write (5 * k) 0xa5 = r at *
        clear Hqi
        go_wp2_with fail
        refine hcall.mono ?_
        rintro e w2 ⟨rfl, t2, k2, z2⟩
        have Hz2 := Lib.hid z2
        clear z2
        go_wp2_with fail
        go_ret
        rw [Hq4.out]
        exact ⟨rfl, t2, ki.andThen k2 (fun _ _ h => h), Hz2.out.trans Hzi.out⟩
  · have Hq : Hid (q = (m1, e1)) := Lib.hid (by rw [H0.out]; simp [he])
    have g1 : (e1 != 0) = true := by simpa using he
    go_wp2_with fail
    go_ret
    rw [Hq.out]
    exact ⟨rfl, t1⟩
end Go.Proofs.YtbkkfkbgcklkgaaGreat
/- cell's cell by its contracts: repair. -/
namespace Go.Proofs.YtbkkfkbgcklkgaaGreat
open Go.RowKit
set_option maxHeartbeats 4000000
set_option maxRecDepth 100000

theorem holds_eq (m : MemM) (k : Nat) (b : Bool) (h : m.holds k = b) : (((m.b.getD (5 * k) 0).toNat : Int) == 165) = b := by
  subst h
  unfold MemM.holds
  rw [Bool.eq_iff_iff]
  simp only [beq_iff_eq]
  constructor
  · intro h
    apply UInt8.toNat_inj.1
    have : ((0xa5 : UInt8)).toNat = 165 := rfl
    omega
  · intro h
    rw [h]
    rfl
/-- A memory behind a call that may make blocks. -/
structure MemGo (w : World) (mb : Nat) (m : MemM) (F : Nat → Prop) (w' : World) : Prop where
  is_ : MemIs w' mb m F
  keep : Keep F w w'
/-- What is left of putting right where no slot holds a word. -/
def restNone (b : List UInt8) : Nat → MemM → MemM × Int × Int
  | 0, m =>
    let a := if b.getD 0 0 = 0 then (m, 0) else m.write 0 0
    if a.2 ≠ 0 then (a.1, 0, a.2) else
    let c := if b.getD 5 0 = 0 then (a.1, 0) else a.1.write 5 0
    (c.1, 0, c.2)
  | 1, m =>
    let c := if b.getD 5 0 = 0 then (m, 0) else m.write 5 0
    (c.1, 0, c.2)
  | _, m => (m, 0, 0)
theorem cellRepair_any (mb : Nat) (m : MemM) (F : Nat → Prop) (a0 a1 x0 x1 : Int) (w : World) (h : MemIs w mb m F) (hb : 10 ≤ m.b.length) (hF : ∀ x, F x → x < w.heap.size)
    (ha0 : a0 = ((m.b.getD (5 * 0) 0).toNat : Int)) (ha1 : a1 = ((m.b.getD (5 * 1) 0).toNat : Int)) (hx0 : x0 = m.word 0) (hx1 : x1 = m.word 1) :
    Calls Tryz.prog 84 #[.pointer (some ⟨mb, 0, none⟩), .agg #[.int .u8 a0, .int .u8 a1], .agg #[.int .u32 x0, .int .u32 x1]] w fun e w' => e = .returned (.tuple #[.int .u32 m.repair.2.1, .int .i64 m.repair.2.2]) ∧ MemGo w mb m.repair.1 F w' := by
  obtain ⟨q, Hq⟩ : ∃ q, Hid (q = m.repair) := ⟨_, Lib.hid rfl⟩
  rw [← Hq.out]
  have hg0 := fun b h => ha0 ▸ holds_eq m 0 b h
  have hg1 := fun b h => ha1 ▸ holds_eq m 1 b h
  have hxr0 := m.word_range 0
  have hxr1 := m.word_range 1
  have hbe : ∀ o1 o2 o3, Below w.heap.size w (((w.alloc o1).alloc o2).alloc o3) := fun o1 o2 o3 => (((Below.refl _ w).alloc (Nat.le_refl _) o1).alloc (by simp) o2).alloc (by simp; omega) o3
  cases h0 : m.holds 0 <;> cases h1 : m.holds 1
  · have e1 : q = restNone m.b 0 m := by
      rw [Hq.out]
      unfold MemM.repair restNone
      simp only [h0, h1, Bool.false_eq_true, if_false]
    have g0 := hg0 _ h0
    have g1 := hg1 _ h1
    have He1 := Lib.hid e1
    have Ha0 := Lib.hid ha0
    have Ha1 := Lib.hid ha1
    clear hg0 hg1 Hq ha0 ha1 hxr0 hxr1 hx0 hx1 e1 h0 h1
    go_enter Tryz.func84, Tryz.ntmps84
    go_upto_region 8 with fail
    obtain ⟨b0, Hb0⟩ : ∃ b, Hid (b = w.heap.size) := ⟨_, Lib.hid rfl⟩
    have hM := h.below (hbe (.cells #[.int .u8 a0, .int .u8 a1] 143) (.cells #[.int .u32 x0, .int .u32 x1] 144) (.cells #[.bool false, .bool false] 201))
    have hk : Keep F w _ := Keep.of_below (hbe (.cells #[.int .u8 a0, .int .u8 a1] 143) (.cells #[.int .u32 x0, .int .u32 x1] 144) (.cells #[.bool false, .bool false] 201))
    have hA : Blk (((w.alloc (.cells #[.int .u8 a0, .int .u8 a1] 143)).alloc (.cells #[.int .u32 x0, .int .u32 x1] 144)).alloc (.cells #[.bool false, .bool false] 201)) w.heap.size 143 #[.int .u8 a0, .int .u8 a1] := ((Blk.new w _ _).alloc _).alloc _
    have hFb : ∀ x, F x → x ≠ w.heap.size := fun x hx => by have := hF x hx; omega
    rw [← Hb0.out] at hA hFb ⊢
    generalize ((w.alloc (.cells #[.int .u8 a0, .int .u8 a1] 143)).alloc (.cells #[.int .u32 x0, .int .u32 x1] 144)).alloc (.cells #[.bool false, .bool false] 201) = W1 at *
    go_wp2_with fail
    go_loopw [48] (fun v48 wl => ∃ (i : Nat) (mi : MemM), i ≤ 2 ∧ v48 = .int .i64 i ∧ MemIs wl mb mi F ∧ mi.b.length = m.b.length ∧ Hid (q = restNone m.b i mi) ∧ Keep F w wl ∧ Blk wl b0 143 #[.int .u8 a0, .int .u8 a1]) (fun v48 _ => 2 - (intOf v48).toNat)
    case atStart => exact ⟨0, m, by omega, rfl, hM, rfl, He1, hk, hA⟩
    case round =>
      obtain ⟨i, mi, hi, rfl, ti, hli, Hqi, ki, hAi⟩ := hrel
      have hc := hAi.cell
      have hcase : i = 0 ∨ i = 1 ∨ i = 2 := by omega
      rcases hcase with rfl | rfl | rfl
      · by_cases hz : a0 = 0
        · have hz' : m.b.getD 0 0 = 0 := UInt8.toNat_inj.1 (by have := Ha0.out; rw [hz] at this; simpa using this.symm)
          have Hq1 : Hid (q = restNone m.b 1 mi) := Lib.hid (by rw [Hqi.out]; simp only [restNone, hz', if_true, ne_eq, not_true_eq_false, if_false])
          have g2 : (a0 != 0) = false := by simpa using hz
          clear Hqi hz hz'
          go_wp2_with fail
          go_round
          case rel => exact ⟨1, mi, by omega, by go_num, ti, hli, Hq1, ki, hAi⟩
          case measure => simp [intOf]
        · have hz' : ¬ m.b.getD 0 0 = 0 := fun e => hz (by have := Ha0.out; rw [show m.b.getD (5 * 0) 0 = 0 from e] at this; simpa using this)
          have g2 : (a0 != 0) = true := by simpa using hz
          have hcall := memWrite_at mb mi F 0 0 0 0 wr rfl rfl ti (by omega)
          have hwl := write_length mi 0 0
          have Hq1 : Hid (q = if (mi.write 0 0).2 ≠ 0 then ((mi.write 0 0).1, 0, (mi.write 0 0).2) else restNone m.b 1 (mi.write 0 0).1) := Lib.hid (by rw [Hqi.out]; simp only [restNone, hz', if_false])
          generalize mi.write 0 0 = r at *
          obtain ⟨m2, e2⟩ := r
          simp only at hcall hwl
          clear Hqi hz hz'
          go_wp2_with fail
          refine hcall.mono ?_
          rintro e w2 ⟨rfl, t2, k2, z2⟩
          have hA2 := hAi.keep k2 (fun hx => hFb _ hx rfl)
          clear z2 hcall hc
          have hk2 := ki.andThen k2 (fun _ _ h => h)
          by_cases he : e2 = 0
          · subst he
            have Hq2 : Hid (q = restNone m.b 1 m2) := Lib.hid (by rw [Hq1.out]; simp)
            clear Hq1
            go_wp2_with fail
            go_round
            case rel => exact ⟨1, m2, by omega, by go_num, t2, by omega, Hq2, hk2, hA2⟩
            case measure => simp [intOf]
          · have Hq2 : Hid (q = (m2, 0, e2)) := Lib.hid (by rw [Hq1.out, if_pos he])
            have g3 : (e2 != 0) = true := by simpa using he
            clear Hq1
            go_wp2_with fail
            have e3 := Hq2.out
            subst e3
            refine bodyPost_ret (v := .tuple #[.int .u32 0, .int .i64 e2]) (by simp [results, Tryz.results84, go_sem]) rfl ⟨rfl, t2, hk2⟩
      · by_cases hz : a1 = 0
        · have hz' : m.b.getD 5 0 = 0 := UInt8.toNat_inj.1 (by have := Ha1.out; rw [hz] at this; simpa using this.symm)
          have Hq1 : Hid (q = restNone m.b 2 mi) := Lib.hid (by rw [Hqi.out]; simp only [restNone, hz', if_true])
          have g2 : (a1 != 0) = false := by simpa using hz
          clear Hqi hz hz'
          go_wp2_with fail
          go_round
          case rel => exact ⟨2, mi, by omega, by go_num, ti, hli, Hq1, ki, hAi⟩
          case measure => simp [intOf]
        · have hz' : ¬ m.b.getD 5 0 = 0 := fun e => hz (by have := Ha1.out; rw [show m.b.getD (5 * 1) 0 = 0 from e] at this; simpa using this)
          have g2 : (a1 != 0) = true := by simpa using hz
          have hcall := memWrite_at mb mi F 5 0 5 0 wr rfl rfl ti (by omega)
          have hwl := write_length mi 5 0
          have Hq1 : Hid (q = ((mi.write 5 0).1, 0, (mi.write 5 0).2)) := Lib.hid (by rw [Hqi.out]; simp only [restNone, hz', if_false])
          generalize mi.write 5 0 = r at *
          obtain ⟨m2, e2⟩ := r
          simp only at hcall hwl
          clear Hqi hz hz'
          go_wp2_with fail
          refine hcall.mono ?_
          rintro e w2 ⟨rfl, t2, k2, z2⟩
          have hA2 := hAi.keep k2 (fun hx => hFb _ hx rfl)
          clear z2 hcall hc
          have hk2 := ki.andThen k2 (fun _ _ h => h)
          by_cases he : e2 = 0
          · subst he
            go_wp2_with fail
            go_round
            case rel => exact ⟨2, m2, by omega, by go_num, t2, by omega, Lib.hid Hq1.out, hk2, hA2⟩
            case measure => simp [intOf]
          · have g3 : (e2 != 0) = true := by simpa using he
            go_wp2_with fail
            have e3 := Hq1.out
            subst e3
            refine bodyPost_ret (v := .tuple #[.int .u32 0, .int .i64 e2]) (by simp [results, Tryz.results84, go_sem]) rfl ⟨rfl, t2, hk2⟩
      · have e3 : q = (mi, 0, 0) := Hqi.out
        subst e3
        clear Hqi
        go_wp2_with fail
        refine bodyPost_ret (v := .tuple #[.int .u32 0, .int .i64 0]) (by simp [results, Tryz.results84, go_sem]) rfl ⟨rfl, ti, ki⟩
  · have e1 : q = ((m.writeSlot 0 x1).1, x1, (m.writeSlot 0 x1).2) := by rw [Hq.out]; unfold MemM.repair; simp only [h0, h1, if_true, Bool.false_eq_true, if_false, hx1]
    have hcall := fun w h => cellWrite_any mb m F 0 0 x1 w rfl h hb (by omega) (by rw [hx1]; exact hxr1)
    have He1 := Lib.hid e1
    have g0 := hg0 _ h0
    have g1 := hg1 _ h1
    generalize m.writeSlot 0 x1 = r at *
    clear hg0 hg1 Hq ha0 ha1 hxr0 hxr1 hx0 hx1 e1
    go_enter Tryz.func84, Tryz.ntmps84
    go_upto_region 7 with fail
    obtain ⟨b1, Hb1⟩ : ∃ b, Hid (b = w.heap.size + 1) := ⟨_, Lib.hid rfl⟩
    have hM := (h.below (hbe (.cells #[.int .u8 a0, .int .u8 a1] 143) (.cells #[.int .u32 x0, .int .u32 x1] 144) (.cells #[.bool false, .bool true] 201))).drewN 1
    have hk : Keep F w _ := Keep.of_below (hbe (.cells #[.int .u8 a0, .int .u8 a1] 143) (.cells #[.int .u32 x0, .int .u32 x1] 144) (.cells #[.bool false, .bool true] 201)).drew
    have hX : Blk (((w.alloc (.cells #[.int .u8 a0, .int .u8 a1] 143)).alloc (.cells #[.int .u32 x0, .int .u32 x1] 144)).alloc (.cells #[.bool false, .bool true] 201)).drew (w.heap.size + 1) 144 #[.int .u32 x0, .int .u32 x1] := ((Blk.new' (w.alloc _) _ _ (by simp)).alloc _).drew
    have hFb : ∀ x, F x → x ≠ w.heap.size + 1 := fun x hx => by have := hF x hx; omega
    replace hM : MemIs (((w.alloc (.cells #[.int .u8 a0, .int .u8 a1] 143)).alloc (.cells #[.int .u32 x0, .int .u32 x1] 144)).alloc (.cells #[.bool false, .bool true] 201)).drew mb m F := hM
    rw [← Hb1.out] at hX hFb ⊢
    go_wp2_with fail
    generalize ((w.alloc (.cells #[.int .u8 a0, .int .u8 a1] 143)).alloc (.cells #[.int .u32 x0, .int .u32 x1] 144)).alloc (.cells #[.bool false, .bool true] 201) = W1 at *
    go_region_held3 (fun w' => w'.cell? ⟨b1, 1, none⟩ = some (.int .u32 x1)) (exact (hX.cell 1).trans rfl) (first
      | (go_at_call 127; refine (hcall _ hM).mono ?_; rintro e W2 ⟨rfl, t2, k2, z2⟩; replace hX := hX.keep k2 (fun hx => hFb _ hx rfl)))
    all_goals
      go_wp2_with fail
      have e3 := He1.out
      subst e3
      refine bodyPost_ret (v := .tuple #[.int .u32 x1, .int .i64 r.2]) (by simp [results, Tryz.results84, go_sem]) rfl ⟨rfl, t2, hk.andThen k2 (fun _ _ h => h)⟩
  · have e1 : q = ((m.writeSlot 1 x0).1, x0, (m.writeSlot 1 x0).2) := by rw [Hq.out]; unfold MemM.repair; simp only [h0, h1, if_true, Bool.false_eq_true, if_false, hx0]
    have hcall := fun w h => cellWrite_any mb m F 1 1 x0 w rfl h hb (by omega) (by rw [hx0]; exact hxr0)
    have He1 := Lib.hid e1
    have g0 := hg0 _ h0
    have g1 := hg1 _ h1
    generalize m.writeSlot 1 x0 = r at *
    clear hg0 hg1 Hq ha0 ha1 hxr0 hxr1 hx0 hx1 e1
    go_enter Tryz.func84, Tryz.ntmps84
    go_upto_region 5 with fail
    obtain ⟨b1, Hb1⟩ : ∃ b, Hid (b = w.heap.size + 1) := ⟨_, Lib.hid rfl⟩
    have hM := (h.below (hbe (.cells #[.int .u8 a0, .int .u8 a1] 143) (.cells #[.int .u32 x0, .int .u32 x1] 144) (.cells #[.bool true, .bool false] 201))).drewN 1
    have hk : Keep F w _ := Keep.of_below (hbe (.cells #[.int .u8 a0, .int .u8 a1] 143) (.cells #[.int .u32 x0, .int .u32 x1] 144) (.cells #[.bool true, .bool false] 201)).drew
    have hX : Blk (((w.alloc (.cells #[.int .u8 a0, .int .u8 a1] 143)).alloc (.cells #[.int .u32 x0, .int .u32 x1] 144)).alloc (.cells #[.bool true, .bool false] 201)).drew (w.heap.size + 1) 144 #[.int .u32 x0, .int .u32 x1] := ((Blk.new' (w.alloc _) _ _ (by simp)).alloc _).drew
    have hFb : ∀ x, F x → x ≠ w.heap.size + 1 := fun x hx => by have := hF x hx; omega
    replace hM : MemIs (((w.alloc (.cells #[.int .u8 a0, .int .u8 a1] 143)).alloc (.cells #[.int .u32 x0, .int .u32 x1] 144)).alloc (.cells #[.bool true, .bool false] 201)).drew mb m F := hM
    rw [← Hb1.out] at hX hFb ⊢
    go_wp2_with fail
    generalize ((w.alloc (.cells #[.int .u8 a0, .int .u8 a1] 143)).alloc (.cells #[.int .u32 x0, .int .u32 x1] 144)).alloc (.cells #[.bool true, .bool false] 201) = W1 at *
    go_region_held3 (fun w' => w'.cell? ⟨b1, 0, none⟩ = some (.int .u32 x0)) (exact (hX.cell 0).trans rfl) (first
      | (go_at_call 127; refine (hcall _ hM).mono ?_; rintro e W2 ⟨rfl, t2, k2, z2⟩; replace hX := hX.keep k2 (fun hx => hFb _ hx rfl)))
    all_goals
      go_wp2_with fail
      have e3 := He1.out
      subst e3
      refine bodyPost_ret (v := .tuple #[.int .u32 x0, .int .i64 r.2]) (by simp [results, Tryz.results84, go_sem]) rfl ⟨rfl, t2, hk.andThen k2 (fun _ _ h => h)⟩
  · have e1 : q = (m, max x0 x1, 0) := by rw [Hq.out]; unfold MemM.repair; simp only [h0, h1, if_true, hx0, hx1]
    subst e1
    have g0 := hg0 _ h0
    have g1 := hg1 _ h1
    clear hg0 hg1 Hq ha0 ha1 hxr0 hxr1 hx0 hx1
    have hend : MemGo w mb m F _ := ⟨h.below (hbe (.cells #[.int .u8 a0, .int .u8 a1] 143) (.cells #[.int .u32 x0, .int .u32 x1] 144) (.cells #[.bool true, .bool true] 201)), Keep.of_below (hbe _ _ _)⟩
    go_enter Tryz.func84, Tryz.ntmps84
    go_wp2_with fail
    · refine bodyPost_ret (v := .tuple #[.int .u32 x1, .int .i64 0]) (by simp [results, Tryz.results84, go_sem]) rfl ⟨?_, hend⟩
      rw [show max x0 x1 = x1 by omega]
    · refine bodyPost_ret (v := .tuple #[.int .u32 x0, .int .i64 0]) (by simp [results, Tryz.results84, go_sem]) rfl ⟨?_, hend⟩
      rw [show max x0 x1 = x0 by omega]
end Go.Proofs.YtbkkfkbgcklkgaaGreat
/- cell's cell by its contracts: Open, spare, Next. -/
namespace Go.Proofs.YtbkkfkbgcklkgaaGreat
open Go.RowKit
set_option maxHeartbeats 4000000
set_option maxRecDepth 100000

theorem cellOpen_any (mb : Nat) (m : MemM) (F : Nat → Prop) (mx : Int) (w : World) (h : MemIs w mb m F) (ho : m.off = false) (hF : ∀ x, F x → x < w.heap.size) (hmx : 0 ≤ mx ∧ mx < 4294967296) :
    Calls Tryz.prog 44 #[.pointer (some ⟨mb, 0, none⟩), .int .u32 mx] w fun e w' => MemGo w mb (openM m mx).1 F w' ∧
      match (openM m mx).2.1 with
      | some k => ∃ c, e = .returned (.tuple #[.pointer (some ⟨c, 0, none⟩), .int .i64 0]) ∧ (openM m mx).2.2 = 0 ∧ CellIs w' c mb k ∧ w.heap.size ≤ c ∧ c < w'.heap.size
      | none => e = .returned (.tuple #[.pointer none, .int .i64 (openM m mx).2.2]) := by
  have hsz := memSize_any mb m F w h
  by_cases h0 : mx = 0
  · subst h0
    have e1 : openM m 0 = (m, none, 2) := by unfold openM; rw [if_pos (.inl rfl)]
    rw [e1]
    go_enter Tryz.func44, Tryz.ntmps44
    go_wp2_with fail
    refine bodyPost_ret (v := .tuple #[.pointer none, .int .i64 2]) (by simp [results, Tryz.results44, go_sem]) rfl ⟨⟨h, Keep.refl _ _⟩, rfl⟩
  have g0 : (mx == 0) = false := by simpa using h0
  by_cases h1 : m.b.length < 10
  · have e1 : openM m mx = (m, none, 2) := by unfold openM; rw [if_pos (.inr h1)]
    rw [e1]
    have g1 : ((m.b.length : Int) < 10) := by omega
    go_enter Tryz.func44, Tryz.ntmps44
    go_wp2_with (go_at_call 82; refine hsz.mono ?_; rintro e w1 ⟨rfl, rfl⟩)
    refine bodyPost_ret (v := .tuple #[.pointer none, .int .i64 2]) (by simp [results, Tryz.results44, go_sem]) rfl ⟨⟨h, Keep.refl _ _⟩, rfl⟩
  have g1 : ¬ ((m.b.length : Int) < 10) := by omega
  rw [openM_repair m mx h0 (by omega) ho]
  have H1 := Lib.hid h1
  obtain ⟨r, Hr⟩ : ∃ r, Hid (r = m.repair) := ⟨_, Lib.hid rfl⟩
  rw [← Hr.out]
  go_enter Tryz.func44, Tryz.ntmps44
  go_upto_region 7 with (go_at_call 82; refine hsz.mono ?_; rintro e w1 ⟨rfl, rfl⟩)
  obtain ⟨a0, Ha0⟩ : ∃ a, Hid (a = ((m.b.getD (5 * 0) 0).toNat : Int)) := ⟨_, Lib.hid rfl⟩
  obtain ⟨a1, Ha1⟩ : ∃ a, Hid (a = ((m.b.getD (5 * 1) 0).toNat : Int)) := ⟨_, Lib.hid rfl⟩
  obtain ⟨x0, Hx0⟩ : ∃ a, Hid (a = m.word 0) := ⟨_, Lib.hid rfl⟩
  obtain ⟨x1, Hx1⟩ : ∃ a, Hid (a = m.word 1) := ⟨_, Lib.hid rfl⟩
  have hr0 := fun w h => cellRead_any mb m F 0 0 w rfl h ho (by have := H1.out; omega) (by omega)
  have hr1 := fun w h => cellRead_any mb m F 1 1 w rfl h ho (by have := H1.out; omega) (by omega)
  rw [← Ha0.out, ← Hx0.out] at hr0
  rw [← Ha1.out, ← Hx1.out] at hr1
  have hbe : Below w1.heap.size w1 ((w1.alloc (.cells #[.int .u8 0, .int .u8 0] 143)).alloc (.cells #[.int .u32 0, .int .u32 0] 144)) := ((Below.refl _ w1).alloc (Nat.le_refl _) _).alloc (by simp) _
  have hB0 : Blk ((w1.alloc (.cells #[.int .u8 0, .int .u8 0] 143)).alloc (.cells #[.int .u32 0, .int .u32 0] 144)) w1.heap.size 143 #[.int .u8 0, .int .u8 0] := (Blk.new w1 _ _).alloc _
  have hB1 : Blk ((w1.alloc (.cells #[.int .u8 0, .int .u8 0] 143)).alloc (.cells #[.int .u32 0, .int .u32 0] 144)) (w1.heap.size + 1) 144 #[.int .u32 0, .int .u32 0] := Blk.new' (w1.alloc _) _ _ (by simp)
  obtain ⟨b0, Hb0⟩ : ∃ b, Hid (b = w1.heap.size) := ⟨_, Lib.hid rfl⟩
  obtain ⟨b1, Hb1⟩ : ∃ b, Hid (b = w1.heap.size + 1) := ⟨_, Lib.hid rfl⟩
  have hne : b0 ≠ b1 := by have := Hb0.out; have := Hb1.out; omega
  have hbl : w1.heap.size ≤ b0 ∧ w1.heap.size ≤ b1 := by have := Hb0.out; have := Hb1.out; omega
  have HF := Lib.hid hF
  rw [← Hb1.out] at hB1 ⊢
  rw [← Hb0.out] at hB0 ⊢
  have hFo : ∀ x, F x → ¬ (x = b0 ∨ x = b1) := fun x hx e => by have := HF.out x hx; omega
  generalize (w1.alloc (.cells #[.int .u8 0, .int .u8 0] 143)).alloc (.cells #[.int .u32 0, .int .u32 0] 144) = W1 at *
  have hM := h.below hbe
  clear hsz
  go_wp2_with fail
  go_loopw [25] (fun v25 wl => ∃ (i : Nat) (p0 p1 q0 q1 : Int), i ≤ 2 ∧ v25 = .int .i64 i ∧ MemIs wl mb m F ∧ Below w1.heap.size w1 wl ∧ Blk wl b0 143 #[.int .u8 p0, .int .u8 p1] ∧ Blk wl b1 144 #[.int .u32 q0, .int .u32 q1] ∧ Hid (0 < i → p0 = a0 ∧ q0 = x0) ∧ Hid (1 < i → p1 = a1 ∧ q1 = x1)) (fun v25 _ => 2 - (intOf v25).toNat)
  case atStart => exact ⟨0, 0, 0, 0, 0, by omega, rfl, hM, hbe, hB0, hB1, Lib.hid (fun h => by omega), Lib.hid (fun h => by omega)⟩
  case round =>
    obtain ⟨i, p0, p1, q0, q1, hi, rfl, ti, hbi, hi0, hi1, Hp0, Hp1⟩ := hrel
    have hc0 := hi0.cell
    have hc1 := hi1.cell
    have hf0 := hi0.frozen
    have hf1 := hi1.frozen
    have hcase : i = 0 ∨ i = 1 ∨ i = 2 := by omega
    have hst : ∀ (W : World) (A C : Nat) (j k : Nat) (u v : Value), MemIs W mb m F → MemIs ((W.setCell ⟨b0, j, none⟩ u).setCell ⟨b1, k, none⟩ v) mb m F := fun W A C j k u v hW => hW.keep (S := fun x => x = b0 ∨ x = b1) (((Keep.refl _ W).setCell (p := ⟨b0, j, none⟩) (fun _ => .inl rfl) _).setCell (p := ⟨b1, k, none⟩) (fun _ => .inr rfl) _) (fun x hx => hFo x hx) (fun _ h => h)
    have hne' := hne.symm
    rcases hcase with rfl | rfl | rfl
    · go_wp2_with fail
      refine (hr0 wr ti).mono ?_
      rintro e w2 ⟨rfl, rfl⟩
      go_wp2_with fail
      go_round
      case rel =>
        refine ⟨1, a0, p1, x0, q1, by omega, by go_num, hst _ 0 0 _ _ _ _ ti, (hbi.setCell (p := ⟨b0, 0, none⟩) hbl.1 _).setCell (p := ⟨b1, 0, none⟩) hbl.2 _, ?_, ?_, Lib.hid (fun _ => ⟨rfl, rfl⟩), Lib.hid (fun h => by omega)⟩
        · simpa using (hi0.set_ 0 (.int .u8 a0)).far (p := ⟨b1, 0, none⟩) hne (.int .u32 x0)
        · simpa using (hi1.far (p := ⟨b0, 0, none⟩) hne' (.int .u8 a0)).set_ 0 (.int .u32 x0)
      case measure => simp [intOf]
    · go_wp2_with fail
      refine (hr1 wr ti).mono ?_
      rintro e w2 ⟨rfl, rfl⟩
      go_wp2_with fail
      go_round
      case rel =>
        refine ⟨2, p0, a1, q0, x1, by omega, by go_num, hst _ 0 0 _ _ _ _ ti, (hbi.setCell (p := ⟨b0, 1, none⟩) hbl.1 _).setCell (p := ⟨b1, 1, none⟩) hbl.2 _, ?_, ?_, Lib.hid (fun _ => Hp0.out (by omega)), Lib.hid (fun h => ⟨rfl, rfl⟩)⟩
        · simpa using (hi0.set_ 1 (.int .u8 a1)).far (p := ⟨b1, 1, none⟩) hne (.int .u32 x1)
        · simpa using (hi1.far (p := ⟨b0, 1, none⟩) hne' (.int .u8 a1)).set_ 1 (.int .u32 x1)
      case measure => simp [intOf]
    · obtain ⟨rfl, rfl⟩ := Hp0.out (by omega)
      obtain ⟨rfl, rfl⟩ := Hp1.out (by omega)
      have hrep := cellRepair_any mb m F p0 p1 q0 q1 wr ti (by have := H1.out; omega) (fun x hx => by have := HF.out x hx; have := hbi.size; omega) Ha0.out Ha1.out Hx0.out Hx1.out
      rw [← Hr.out] at hrep
      clear Hr
      obtain ⟨mr, vr, er⟩ := r
      simp only at hrep ⊢
      clear hst hr0 hr1 Ha0 Ha1 Hx0 Hx1 Hp0 Hp1
      have hki : Keep F w1 wr := Keep.of_below hbi
      by_cases he : er = 0
      · subst he
        go_wp2_with fail
        refine hrep.mono ?_
        rintro e w2 ⟨rfl, t2⟩
        have hs2 := t2.keep.size
        have hsi := hbi.size
        clear hc0 hc1 hf0 hf1
        go_wp2_with fail
        refine bodyPost_ret (v := .tuple #[.pointer (some ⟨w2.heap.size, 0, none⟩), .int .i64 0]) (by simp [results, Tryz.results44, go_sem]) rfl ⟨⟨t2.is_.below ((Below.refl _ w2).alloc (Nat.le_refl _) _), (hki.andThen t2.keep (fun _ _ h => h)).alloc _⟩, ?_⟩
        exact ⟨w2.heap.size, rfl, Blk.new w2 _ _, by omega, by simp⟩
      · have g2 : (er != 0) = true := by simpa using he
        go_wp2_with fail
        refine hrep.mono ?_
        rintro e w2 ⟨rfl, t2⟩
        go_wp2_with fail
        refine bodyPost_ret (v := .tuple #[.pointer none, .int .i64 er]) (by simp [results, Tryz.results44, go_sem]) rfl ⟨⟨t2.is_, hki.andThen t2.keep (fun _ _ h => h)⟩, rfl⟩
theorem cellSpare_any (c mb : Nat) (k : CellM) (m : MemM) (F : Nat → Prop) (w : World) (h : MemIs w mb m F) (hC : CellIs w c mb k) (ho : m.off = false) (hF : ∀ x, F x → x < w.heap.size) (hb : 10 ≤ m.b.length) :
    Calls Tryz.prog 196 #[.pointer (some ⟨c, 0, none⟩)] w fun e w' => e = .returned (.tuple #[.int .i64 (if m.holds 0 && (!m.holds 1 || decide (m.word 1 < m.word 0)) then 1 else 0), .int .i64 0]) ∧ Below w.heap.size w w' := by
  obtain ⟨a0, Ha0⟩ : ∃ a, Hid (a = ((m.b.getD (5 * 0) 0).toNat : Int)) := ⟨_, Lib.hid rfl⟩
  obtain ⟨a1, Ha1⟩ : ∃ a, Hid (a = ((m.b.getD (5 * 1) 0).toNat : Int)) := ⟨_, Lib.hid rfl⟩
  obtain ⟨x0, Hx0⟩ : ∃ a, Hid (a = m.word 0) := ⟨_, Lib.hid rfl⟩
  obtain ⟨x1, Hx1⟩ : ∃ a, Hid (a = m.word 1) := ⟨_, Lib.hid rfl⟩
  have hr0 := fun w h => cellRead_any mb m F 0 0 w rfl h ho hb (by omega)
  have hr1 := fun w h => cellRead_any mb m F 1 1 w rfl h ho hb (by omega)
  rw [← Ha0.out, ← Hx0.out] at hr0
  rw [← Ha1.out, ← Hx1.out] at hr1
  rw [← Hx0.out, ← Hx1.out]
  obtain ⟨res, Hres⟩ : ∃ r : Int, Hid (r = if m.holds 0 && (!m.holds 1 || decide (x1 < x0)) then 1 else 0) := ⟨_, Lib.hid rfl⟩
  rw [← Hres.out]
  have hclt := Blk.lt hC
  have hbe : Below w.heap.size w ((w.alloc (.cells #[.int .u8 0, .int .u8 0] 143)).alloc (.cells #[.int .u32 0, .int .u32 0] 144)) := ((Below.refl _ w).alloc (Nat.le_refl _) _).alloc (by simp) _
  have hB0 : Blk ((w.alloc (.cells #[.int .u8 0, .int .u8 0] 143)).alloc (.cells #[.int .u32 0, .int .u32 0] 144)) w.heap.size 143 #[.int .u8 0, .int .u8 0] := (Blk.new w _ _).alloc _
  have hB1 : Blk ((w.alloc (.cells #[.int .u8 0, .int .u8 0] 143)).alloc (.cells #[.int .u32 0, .int .u32 0] 144)) (w.heap.size + 1) 144 #[.int .u32 0, .int .u32 0] := Blk.new' (w.alloc _) _ _ (by simp)
  obtain ⟨b0, Hb0⟩ : ∃ b, Hid (b = w.heap.size) := ⟨_, Lib.hid rfl⟩
  obtain ⟨b1, Hb1⟩ : ∃ b, Hid (b = w.heap.size + 1) := ⟨_, Lib.hid rfl⟩
  have hne : b0 ≠ b1 := by have := Hb0.out; have := Hb1.out; omega
  have hbl : w.heap.size ≤ b0 ∧ w.heap.size ≤ b1 := by have := Hb0.out; have := Hb1.out; omega
  have HF := Lib.hid hF
  have hFo : ∀ x, F x → ¬ (x = b0 ∨ x = b1) := fun x hx e => by have := HF.out x hx; omega
  have hg0 := fun b h => Ha0.out ▸ holds_eq m 0 b h
  have hg1 := fun b h => Ha1.out ▸ holds_eq m 1 b h
  go_enter Tryz.func196, Tryz.ntmps196
  go_upto_region 3 with fail
  rw [← Hb1.out] at hB1 ⊢
  rw [← Hb0.out] at hB0 ⊢
  have hC0 := Blk.below hC hbe hclt
  generalize (w.alloc (.cells #[.int .u8 0, .int .u8 0] 143)).alloc (.cells #[.int .u32 0, .int .u32 0] 144) = W1 at *
  have hM := h.below hbe
  go_wp2_with fail
  go_loopw [10] (fun v10 wl => ∃ (i : Nat) (p0 p1 q0 q1 : Int), i ≤ 2 ∧ v10 = .int .i64 i ∧ MemIs wl mb m F ∧ Below w.heap.size w wl ∧ Blk wl b0 143 #[.int .u8 p0, .int .u8 p1] ∧ Blk wl b1 144 #[.int .u32 q0, .int .u32 q1] ∧ Hid (0 < i → p0 = a0 ∧ q0 = x0) ∧ Hid (1 < i → p1 = a1 ∧ q1 = x1) ∧ wl.cell? ⟨c, 0, none⟩ = some (.pointer (some ⟨mb, 0, none⟩))) (fun v10 _ => 2 - (intOf v10).toNat)
  case atStart => exact ⟨0, 0, 0, 0, 0, by omega, rfl, hM, hbe, hB0, hB1, Lib.hid (fun h => by omega), Lib.hid (fun h => by omega), (Blk.cell hC0 0).trans rfl⟩
  case round =>
    obtain ⟨i, p0, p1, q0, q1, hi, rfl, ti, hbi, hi0, hi1, Hp0, Hp1, hcc⟩ := hrel
    have hc0 := hi0.cell
    have hc1 := hi1.cell
    have hf0 := hi0.frozen
    have hf1 := hi1.frozen
    have hcase : i = 0 ∨ i = 1 ∨ i = 2 := by omega
    have hst : ∀ (W : World) (j k : Nat) (u v : Value), MemIs W mb m F → MemIs ((W.setCell ⟨b0, j, none⟩ u).setCell ⟨b1, k, none⟩ v) mb m F := fun W j k u v hW => hW.keep (S := fun x => x = b0 ∨ x = b1) (((Keep.refl _ W).setCell (p := ⟨b0, j, none⟩) (fun _ => .inl rfl) _).setCell (p := ⟨b1, k, none⟩) (fun _ => .inr rfl) _) (fun x hx => hFo x hx) (fun _ h => h)
    have hne' := hne.symm
    have hcb : b0 ≠ c ∧ b1 ≠ c := by omega
    have hsc : ∀ (W : World) (j k : Nat) (u v : Value), ((W.setCell ⟨b0, j, none⟩ u).setCell ⟨b1, k, none⟩ v).cell? ⟨c, 0, none⟩ = W.cell? ⟨c, 0, none⟩ := fun W j k u v => (cellS _ hcb.2 k v 0).trans (cellS _ hcb.1 j u 0)
    rcases hcase with rfl | rfl | rfl
    · go_wp2_with fail
      refine (hr0 wr ti).mono ?_
      rintro e w2 ⟨rfl, rfl⟩
      go_wp2_with fail
      go_round
      case rel =>
        refine ⟨1, a0, p1, x0, q1, by omega, by go_num, hst _ _ _ _ _ ti, (hbi.setCell (p := ⟨b0, 0, none⟩) hbl.1 _).setCell (p := ⟨b1, 0, none⟩) hbl.2 _, ?_, ?_, Lib.hid (fun _ => ⟨rfl, rfl⟩), Lib.hid (fun h => by omega), (hsc _ _ _ _ _).trans hcc⟩
        · simpa using (hi0.set_ 0 (.int .u8 a0)).far (p := ⟨b1, 0, none⟩) hne (.int .u32 x0)
        · simpa using (hi1.far (p := ⟨b0, 0, none⟩) hne' (.int .u8 a0)).set_ 0 (.int .u32 x0)
      case measure => simp [intOf]
    · go_wp2_with fail
      refine (hr1 wr ti).mono ?_
      rintro e w2 ⟨rfl, rfl⟩
      go_wp2_with fail
      go_round
      case rel =>
        refine ⟨2, p0, a1, q0, x1, by omega, by go_num, hst _ _ _ _ _ ti, (hbi.setCell (p := ⟨b0, 1, none⟩) hbl.1 _).setCell (p := ⟨b1, 1, none⟩) hbl.2 _, ?_, ?_, Lib.hid (fun _ => Hp0.out (by omega)), Lib.hid (fun h => ⟨rfl, rfl⟩), (hsc _ _ _ _ _).trans hcc⟩
        · simpa using (hi0.set_ 1 (.int .u8 a1)).far (p := ⟨b1, 1, none⟩) hne (.int .u32 x1)
        · simpa using (hi1.far (p := ⟨b0, 1, none⟩) hne' (.int .u8 a1)).set_ 1 (.int .u32 x1)
      case measure => simp [intOf]
    · obtain ⟨rfl, rfl⟩ := Hp0.out (by omega)
      obtain ⟨rfl, rfl⟩ := Hp1.out (by omega)
      clear hst hsc hr0 hr1 Ha0 Ha1 Hx0 Hx1 Hp0 Hp1
      cases h0 : m.holds 0 with
      | false =>
        have g0 := hg0 _ h0
        have n0 : ¬ p0 = 165 := by simpa using g0
        clear hg0 hg1
        have e3 : res = 0 := by rw [Hres.out, h0]; rfl
        subst e3
        go_wp2_with fail
        refine bodyPost_ret (v := .tuple #[.int .i64 0, .int .i64 0]) (by simp [results, Tryz.results196, go_sem]) rfl ⟨rfl, hbi⟩
      | true =>
        have g0 := hg0 _ h0
        have n0 : p0 = 165 := by simpa using g0
        cases h1 : m.holds 1 with
        | false =>
          have g1 := hg1 _ h1
          have g1' : (p1 != 165) = true := by simpa using g1
          have n1 : ¬ p1 = 165 := by simpa using g1
          clear hg0 hg1
          have e3 : res = 1 := by rw [Hres.out, h0, h1]; rfl
          subst e3
          go_wp2_with fail
          refine bodyPost_ret (v := .tuple #[.int .i64 1, .int .i64 0]) (by simp [results, Tryz.results196, go_sem]) rfl ⟨rfl, hbi⟩
        | true =>
          have g1 := hg1 _ h1
          have g1' : (p1 != 165) = false := by simpa using g1
          have n1 : p1 = 165 := by simpa using g1
          clear hg0 hg1
          by_cases hlt : q1 < q0
          · have e3 : res = 1 := by rw [Hres.out, h0, h1]; simp [hlt]
            subst e3
            go_wp2_with fail
            refine bodyPost_ret (v := .tuple #[.int .i64 1, .int .i64 0]) (by simp [results, Tryz.results196, go_sem]) rfl ⟨rfl, hbi⟩
          · have e3 : res = 0 := by rw [Hres.out, h0, h1]; simp [hlt]
            subst e3
            go_wp2_with fail
            refine bodyPost_ret (v := .tuple #[.int .i64 0, .int .i64 0]) (by simp [results, Tryz.results196, go_sem]) rfl ⟨rfl, hbi⟩
theorem cellNext_any (c mb : Nat) (k : CellM) (m : MemM) (F : Nat → Prop) (w : World) (h : MemIs w mb m F) (hC : CellIs w c mb k) (hF : ∀ x, F x → x < w.heap.size) (hcF : ¬ F c) (hb : 10 ≤ m.b.length) (hv : 0 ≤ k.value ∧ k.max < 4294967296) :
    Calls Tryz.prog 186 #[.pointer (some ⟨c, 0, none⟩)] w fun e w' => e = .returned (.tuple #[.int .u32 (k.next m).2.2.1, .int .i64 (k.next m).2.2.2]) ∧ MemIs w' mb (k.next m).2.1 F ∧ CellIs w' c mb (k.next m).1 ∧ Keep (fun x => F x ∨ x = c) w w' := by
  have hc := Blk.cell hC
  have hoff := memOff_any mb m F w h
  by_cases h0 : (k.dead || m.off) = true
  · have e1 : k.next m = (k, m, 0, 70) := by unfold CellM.next; rw [if_pos h0]
    rw [e1]
    cases hd : k.dead with
    | true =>
      rw [hd] at hc
      go_enter Tryz.func186, Tryz.ntmps186
      go_wp2_with fail
      refine bodyPost_ret (v := .tuple #[.int .u32 0, .int .i64 70]) (by simp [results, Tryz.results186, go_sem]) rfl ⟨rfl, h, hC, Keep.refl _ _⟩
    | false =>
      have ho : m.off = true := by rw [hd] at h0; simpa using h0
      rw [hd] at hc
      rw [ho] at hoff
      go_enter Tryz.func186, Tryz.ntmps186
      go_wp2_with (go_at_call 195; refine hoff.mono ?_; rintro e w1 ⟨rfl, rfl⟩)
      refine bodyPost_ret (v := .tuple #[.int .u32 0, .int .i64 70]) (by simp [results, Tryz.results186, go_sem]) rfl ⟨rfl, h, hC, Keep.refl _ _⟩
  · obtain ⟨hd, ho⟩ : k.dead = false ∧ m.off = false := by
      cases hd : k.dead <;> cases ho : m.off <;> simp_all
    rw [hd] at hc
    rw [ho] at hoff
    by_cases h1 : k.max ≤ k.value
    · have e1 : k.next m = (k, m, 0, 80) := by unfold CellM.next; rw [if_neg h0, if_pos h1]
      rw [e1]
      go_enter Tryz.func186, Tryz.ntmps186
      go_wp2_with (go_at_call 195; refine hoff.mono ?_; rintro e w1 ⟨rfl, rfl⟩)
      go_big_quiet (fail)
      go_wp2_with fail
      refine bodyPost_ret (v := .tuple #[.int .u32 0, .int .i64 80]) (by simp [results, Tryz.results186, go_sem]) rfl ⟨rfl, h.drewN _, Blk.drewN hC _, (Keep.refl _ _).drewN _⟩
    · have hsp := cellSpare_any c mb k m F
      obtain ⟨s, Hs⟩ : ∃ s : Nat, Hid (s = if m.holds 0 && (!m.holds 1 || decide (m.word 1 < m.word 0)) then 1 else 0) := ⟨_, Lib.hid rfl⟩
      have hsi : (if m.holds 0 && (!m.holds 1 || decide (m.word 1 < m.word 0)) then (1 : Int) else 0) = (s : Int) := by rw [Hs.out]; split <;> rfl
      have hs2 : s < 2 := by rw [Hs.out]; split <;> omega
      rw [hsi] at hsp
      have hwr : IntKind.u32.wrap (k.value + 1) = k.value + 1 := IntWalk.u32_in _ (by omega)
      obtain ⟨q, Hq⟩ : ∃ q, Hid (q = k.next m) := ⟨_, Lib.hid rfl⟩
      have Hq1 : Hid (q = if (m.writeSlot s (k.value + 1)).2 ≠ 0 then ({ k with dead := true }, (m.writeSlot s (k.value + 1)).1, 0, 70) else ({ k with value := k.value + 1 }, (m.writeSlot s (k.value + 1)).1, k.value + 1, 0)) := Lib.hid (by
        rw [Hq.out]; unfold CellM.next; rw [if_neg h0, if_neg h1, ← Hs.out])
      have hw := fun w h => cellWrite_any mb m F s (s : Int) (k.value + 1) w rfl h hb hs2 (by omega)
      rw [← Hq.out]
      generalize m.writeSlot s (k.value + 1) = r at *
      obtain ⟨mr, er⟩ := r
      simp only at hw
      have Hq2 : Hid (q = if er ≠ 0 then ({ k with dead := true }, mr, 0, 70) else ({ k with value := k.value + 1 }, mr, k.value + 1, 0)) := Lib.hid Hq1.out
      clear Hq Hq1 hsi Hs
      go_enter Tryz.func186, Tryz.ntmps186
      go_wp2_with (go_at_call 195; refine hoff.mono ?_; rintro e w1 ⟨rfl, rfl⟩)
      go_big_quiet (fail)
      have hM1 := h.drewN nq
      have hC1 : CellIs (w1.drewN nq) c mb k := Blk.drewN hC nq
      have hk1 := (Keep.refl (fun x => F x ∨ x = c) w1).drewN nq
      have hF1 : ∀ x, F x → x < (w1.drewN nq).heap.size := hF
      generalize w1.drewN nq = W1 at *
      clear hc hoff
      go_wp2_with fail
      refine (hsp W1 hM1 hC1 ho hF1 hb).mono ?_
      rintro e W2 ⟨rfl, hb2⟩
      have hM2 := (hM1.below hb2).drewN 1
      have hC2 : CellIs W2.drew c mb k := (Blk.below hC1 hb2 (Blk.lt hC1)).drew
      have hk2 := (hk1.andThen (S' := fun _ => False) (Keep.of_below hb2) (fun _ _ h => h.elim)).drew
      replace hM2 : MemIs W2.drew mb m F := hM2
      go_wp2_with fail
      go_region_held3 (fun w' => w'.cell? ⟨c, 0, none⟩ = some (.pointer (some ⟨mb, 0, none⟩)) ∧ w'.cell? ⟨c, 2, none⟩ = some (.int .u32 k.value)) (exact ⟨(Blk.cell hC2 0).trans rfl, (Blk.cell hC2 2).trans rfl⟩) (first
        | (go_at_call 127; refine (hw _ hM2).mono ?_; rintro e W3 ⟨rfl, t3, k3, z3⟩; replace hC2 : CellIs W3 c mb k := Blk.keep hC2 k3 hcF))
      all_goals
        have hk3 := hk2.andThen k3 (fun x _ hx => .inl hx)
        have hc3 := Blk.cell hC2
        have hf3 := Blk.frozen hC2
        clear z3
        by_cases he : er = 0
        · have hq := Hq2.out
          rw [if_neg (by simpa using he)] at hq
          subst hq
          subst he
          have hset : CellIs (W3.setCell ⟨c, 2, none⟩ (.int .u32 (k.value + 1))) c mb ⟨k.max, k.value + 1, false⟩ := by simpa [CellIs, hd] using Blk.set_ hC2 2 (.int .u32 (k.value + 1))
          have hMe := t3.keep (S := fun x => x = c) ((Keep.refl (fun x => x = c) W3).setCell (p := ⟨c, 2, none⟩) (fun _ => rfl) (.int .u32 (k.value + 1))) (fun x hx e => hcF (e ▸ hx)) (fun _ h => h)
          go_wp2_with fail
          refine bodyPost_ret (v := .tuple #[.int .u32 (k.value + 1), .int .i64 0]) (by simp [results, Tryz.results186, go_sem]) rfl ⟨rfl, hMe, hset, hk3.setCell (p := ⟨c, 2, none⟩) (fun _ => .inr rfl) _⟩
        · have hq := Hq2.out
          rw [if_pos he] at hq
          subst hq
          have g2 : (er != 0) = true := by simpa using he
          have hset : CellIs (W3.setCell ⟨c, 3, none⟩ (.bool true)) c mb { k with dead := true } := by simpa [CellIs] using Blk.set_ hC2 3 (.bool true)
          have hMe := t3.keep (S := fun x => x = c) ((Keep.refl (fun x => x = c) W3).setCell (p := ⟨c, 3, none⟩) (fun _ => rfl) (.bool true)) (fun x hx e => hcF (e ▸ hx)) (fun _ h => h)
          go_wp2_with fail
          refine bodyPost_ret (v := .tuple #[.int .u32 0, .int .i64 70]) (by simp [results, Tryz.results186, go_sem]) rfl ⟨rfl, hMe, hset, hk3.setCell (p := ⟨c, 3, none⟩) (fun _ => .inr rfl) _⟩
end Go.Proofs.YtbkkfkbgcklkgaaGreat
