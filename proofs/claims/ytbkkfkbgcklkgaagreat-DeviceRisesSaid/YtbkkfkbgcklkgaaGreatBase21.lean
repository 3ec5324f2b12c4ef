/- The base of the laws, part 21: contracts and plain lemmas, no statement. -/
import Derived.Test.YtbkkfkbgcklkgaaGreatBase20
/- A burst turned in a frame is seen by the check: plain. -/
namespace Go.Proofs.YtbkkfkbgcklkgaaGreat

theorem crcZn_zero (n : Nat) : crcZn n 0#32 = 0#32 := by
  induction n with
  | zero => rfl
  | succ n ih => rw [crcZn, crcZ_zero, ih]
theorem crcByte_xor (s d : BitVec 32) (c : UInt8) : crcByte (s ^^^ d) c = crcByte s c ^^^ crcZn 8 d := by
  unfold crcByte
  have e : ∀ x : BitVec 32, s ^^^ d ^^^ x = s ^^^ x ^^^ d := fun x => by rw [BitVec.xor_assoc, BitVec.xor_comm d, ← BitVec.xor_assoc]
  rw [e, crcZn_xor]
theorem crcOf_xor (s d : BitVec 32) (l : List UInt8) : crcOf (s ^^^ d) l = crcOf s l ^^^ crcZn (8 * l.length) d := by
  induction l generalizing s d with
  | nil => rfl
  | cons c l ih =>
    show crcOf (crcByte (s ^^^ d) c) l = crcOf (crcByte s c) l ^^^ _
    rw [crcByte_xor, ih, List.length_cons, ← crcZn_add]
    congr 2
    omega
theorem crcByte_turn (s : BitVec 32) (c m : UInt8) : crcByte s (c ^^^ m) = crcByte s c ^^^ crcZn 8 (m.toBitVec.setWidth 32 <<< 24) := by
  unfold crcByte
  rw [UInt8.toBitVec_xor, BitVec.setWidth_xor, BitVec.shiftLeft_xor_distrib, ← BitVec.xor_assoc, crcZn_xor]
theorem crcOf_set (s : BitVec 32) (m : UInt8) (l : List UInt8) (i : Nat) (hi : i < l.length) : crcOf s (l.set i ((l.getD i 0) ^^^ m)) = crcOf s l ^^^ crcZn (8 + 8 * (l.length - 1 - i)) (m.toBitVec.setWidth 32 <<< 24) := by
  induction l generalizing s i with
  | nil => simp at hi
  | cons c l ih =>
    cases i with
    | zero =>
      show crcOf (crcByte s (c ^^^ m)) l = crcOf (crcByte s c) l ^^^ _
      rw [crcByte_turn, crcOf_xor, ← crcZn_add]
      congr 2
    | succ i =>
      show crcOf (crcByte s c) (l.set i ((l.getD i 0) ^^^ m)) = crcOf (crcByte s c) l ^^^ _
      rw [ih _ i (by simpa using hi)]
      congr 2
      simp
      omega
theorem turn_one (r : Nat) (hr : r < 8) : crcZn 8 ((128 >>> UInt8.ofNat r : UInt8).toBitVec.setWidth 32 <<< 24) = crcZn (39 - r) 1#32 := by
  have key : ∀ r : Fin 8, crcZn 8 ((128 >>> UInt8.ofNat r.val : UInt8).toBitVec.setWidth 32 <<< 24) = crcZn (39 - r.val) 1#32 := by decide +kernel
  exact key ⟨r, hr⟩
theorem crcOf_turnBit (b : List UInt8) (k : Nat) (hk : k < 8 * b.length) : crcOf 0#32 (turnBit b k) = crcOf 0#32 b ^^^ crcZn (31 + 8 * b.length - k) 1#32 := by
  unfold turnBit
  rw [crcOf_set _ _ _ _ (by omega), crcZn_add, turn_one _ (Nat.mod_lt _ (by omega)), ← crcZn_add]
  congr 2
  omega
theorem turnBit_length (b : List UInt8) (k : Nat) : (turnBit b k).length = b.length := by simp [turnBit]
theorem turnTo_len (word : Int) (size frm : Nat) (b : List UInt8) (k : Nat) : (turnTo word size frm b k).length = b.length := by
  induction k with
  | zero => rfl
  | succ k ih => unfold turnTo; split <;> simp [turnBit_length, ih]
/-- What the first k bits of a burst are worth. -/
def worth (word : Int) (size : Nat) : Nat → BitVec 32
  | 0 => 0#32
  | k + 1 => if wbit word (size - 1 - k) then worth word size k ^^^ crcZn (size - 1 - k) 1#32 else worth word size k
theorem crcOf_turnTo (word : Int) (size frm : Nat) (b : List UInt8) (k : Nat) (hk : k ≤ size) (hf : frm + size ≤ 8 * b.length) :
    crcOf 0#32 (turnTo word size frm b k) = crcOf 0#32 b ^^^ crcZn (32 + (8 * b.length - frm - size)) (worth word size k) := by
  induction k with
  | zero => simp [turnTo, worth, crcZn_zero]
  | succ k ih =>
    have ih := ih (by omega)
    unfold turnTo worth
    split
    · rw [crcOf_turnBit _ _ (by rw [turnTo_len]; omega), ih, turnTo_len, crcZn_xor, ← crcZn_add, BitVec.xor_assoc]
      congr 3
      omega
    · exact ih
theorem one_shl (j : Nat) (hj : j < 32) : crcZn j 1#32 = 1#32 <<< j := by
  have key : ∀ j : Fin 32, crcZn j.val 1#32 = 1#32 <<< j.val := by decide +kernel
  exact key ⟨j, hj⟩
theorem worth_bit (word : Int) (size k j : Nat) (hs : size ≤ 32) (hk : k ≤ size) (hj : j < size) : (worth word size k).getLsbD j = (decide (size - 1 - j < k) && wbit word j) := by
  induction k with
  | zero => simp [worth]
  | succ k ih =>
    have ih := ih (by omega)
    unfold worth
    have e : ((1#32) <<< (size - 1 - k)).getLsbD j = decide (j = size - 1 - k) := by
      rw [← BitVec.twoPow_eq, BitVec.getLsbD_twoPow]
      have h32 : size - 1 - k < 32 := by omega
      simp only [h32, decide_true, Bool.true_and]
      by_cases h : j = size - 1 - k
      · simp [h]
      · have : ¬ size - 1 - k = j := fun e => h e.symm
        simp [h, this]
    by_cases h : j = size - 1 - k
    · subst h
      have h1 : decide (size - 1 - (size - 1 - k) < k) = false := by simp; omega
      have h2 : decide (size - 1 - (size - 1 - k) < k + 1) = true := by simp; omega
      rw [h1, Bool.false_and] at ih
      rw [h2, Bool.true_and]
      split
      · rename_i hw
        rw [BitVec.getLsbD_xor, ih, one_shl _ (by omega), e, hw]
        simp
      · rename_i hw
        rw [ih]
        simpa using hw
    · have h3 : decide (size - 1 - j < k + 1) = decide (size - 1 - j < k) := by simp; omega
      rw [h3]
      split
      · rw [BitVec.getLsbD_xor, ih, one_shl _ (by omega), e]
        simp [h]
      · exact ih
theorem sizeM_le (word : Int) (k : Nat) : sizeTo word k ≤ k := by
  induction k with
  | zero => simp [sizeTo]
  | succ k ih => unfold sizeTo; split <;> omega
theorem sizeTo_bit (word : Int) (k : Nat) (h : sizeTo word k ≠ 0) : wbit word (sizeTo word k - 1) = true := by
  induction k with
  | zero => simp [sizeTo] at h
  | succ k ih =>
    unfold sizeTo at h ⊢
    split
    · rename_i hw; simpa using hw
    · rename_i hw
      rw [if_neg hw] at h
      exact ih h
/-- A burst is seen. -/
theorem burst_crc {b x : List UInt8} {at_ word : Int} (h : burstM b at_ word = some x) (hb : crcOf 0#32 b = 0#32) : crcOf 0#32 x ≠ 0#32 ∧ x.length = b.length := by
  unfold burstM at h
  simp only at h
  split at h
  · cases h
  · rename_i hs
    injection h with h
    subst h
    have hs0 : sizeTo word 32 ≠ 0 := fun e => hs (.inl e)
    have hs1 : sizeTo word 32 ≤ 8 * b.length := by
      rcases Nat.lt_or_ge (8 * b.length) (sizeTo word 32) with h | h
      · exact absurd (.inr h) hs
      · exact h
    have hs2 := sizeM_le word 32
    have hfr : (at_ % 18446744073709551616).toNat % (8 * b.length - sizeTo word 32 + 1) < 8 * b.length - sizeTo word 32 + 1 := Nat.mod_lt _ (by omega)
    refine ⟨?_, turnTo_len _ _ _ _ _⟩
    rw [crcOf_turnTo _ _ _ _ _ (Nat.le_refl _) (by omega), hb, BitVec.zero_xor]
    intro h0
    have h1 := crcZn_inj _ _ h0
    have h2 := worth_bit word (sizeTo word 32) (sizeTo word 32) (sizeTo word 32 - 1) hs2 (Nat.le_refl _) (by omega)
    rw [h1, sizeTo_bit word 32 hs0] at h2
    simp at h2
    omega
end Go.Proofs.YtbkkfkbgcklkgaaGreat
/- The reference's log: Records, Count, Same; slices.Equal of codes. -/
namespace Go.Proofs.YtbkkfkbgcklkgaaGreat
open Go.RowKit
set_option maxHeartbeats 600000
set_option maxRecDepth 100000

theorem refRecords_any (b off : Nat) (t : TypeId) (cs : Array Value) (L : List Rec) (F : Nat → Prop) (w : World) (h : LogIs w b t cs off L F) (hs : L.length < 1073741823) :
    Calls Tryz.prog 80 #[.pointer (some ⟨b, off, none⟩)] w fun e w' => ∃ v, e = .returned v ∧ w'.ownsRow w.heap.size 175 4 v (kept L).length (recsCells (kept L)) ∧ Below w.heap.size w w' := by
  obtain ⟨A, c, D⟩ := h
  have hC : w.cell? ⟨b, off, none⟩ = some (.slice A L.length c) := (D.blk.cell off).trans D.at_
  have hA1 : ∀ (W : World) (o : Obj), b < W.heap.size → (W.alloc o).cell? ⟨b, off, none⟩ = W.cell? ⟨b, off, none⟩ := fun W o hlt => cellA hlt o off
  have hblt := D.blk.lt
  have hr := Reads.of_own D.row
  have hlc : L.length ≤ c := by
    rcases D.row.2 with ⟨h, h0⟩ | ⟨g, cap, cur, h, _, _, h1, _⟩
    · omega
    · injection h with _ _ h3; omega
  obtain ⟨i0, hi0, hz0, hz1, hz2⟩ := info_parts rec_info
  obtain ⟨m, hm⟩ : ∃ m, m = L.length := ⟨_, rfl⟩
  have hk : recsCells (kept L) = (recsCells L).drop ((m - 16) * 4) := by rw [hm]; exact recsCells_drop L _
  have hkl : (kept L).length = m - (m - 16) := by rw [hm]; unfold kept; rw [List.length_drop]
  rw [← hm] at hC hs hr hlc
  rw [hk, hkl]
  have hone : ∀ u ∈ (recsCells L).drop ((m - 16) * 4), u.oneCell' = true := fun u hu => recsCells_one L u (List.mem_of_mem_drop hu)
  clear hm hk hkl D
  rcases Nat.lt_or_ge 16 m with h16 | h16
  · obtain ⟨q, rfl⟩ : ∃ q, m = q + 16 := ⟨m - 16, by omega⟩
    have hcut := hr.cut (k := q) (cap := c) (by omega) hlc
    rw [if_neg (by omega)] at hcut
    rw [show q + 16 - 16 = q by omega] at hone
    rw [show q + 16 - q = 16 by omega] at hcut
    rw [show q + 16 - 16 = q by omega, show q + 16 - q = 16 by omega]
    go_enter Tryz.func80, Tryz.ntmps80
    go_wp2_with (at_builtin; refine wpList_append_any _ rfl (.tmp 12) (.tmp 18) _ rfl w.heap.size 175 i0 _ 4 24 Tryz.underlying78 hi0 hz0 hz1 hz2 rfl (by omega) (.slice (some ⟨w.heap.size, 0, none⟩) 0 0) 0 [] rfl (World.ownsRow_made w #[] 0 (Nat.le_refl _) (by unfold maxLen; omega) rfl) w.heap.size (A.map (·.add (q * 4))) 16 (c - q) _ rfl (hcut.alloc (Nat.le_refl _) _) hone (by unfold maxLen; omega) (by omega) (by simp) ?_; intro v1 w1 hown1 hg1 hat1)
    go_ret
    exact ⟨_, rfl, by simpa using hown1, ((Below.refl _ _).alloc (Nat.le_refl _) _).grown hg1 (by simp) (fun k hk => by simp [Value.ownBlock] at hk; omega)⟩
  · have e0 : m - 16 = 0 := by omega
    rw [e0, Nat.zero_mul, List.drop_zero] at hone
    rw [e0, Nat.zero_mul, List.drop_zero, Nat.sub_zero]
    clear e0
    have hd : decide ((m : Int) - 16 < 0) = decide (m < 16) := by simp; omega
    rcases Nat.lt_or_ge m 16 with h17 | h17
    · go_enter Tryz.func80, Tryz.ntmps80
      go_wp2_with (at_builtin; refine wpList_append_any _ rfl (.tmp 12) (.tmp 18) _ rfl w.heap.size 175 i0 _ 4 24 Tryz.underlying78 hi0 hz0 hz1 hz2 rfl (by omega) (.slice (some ⟨w.heap.size, 0, none⟩) 0 0) 0 [] rfl (World.ownsRow_made w #[] 0 (Nat.le_refl _) (by unfold maxLen; omega) rfl) w.heap.size A m c _ rfl (hr.alloc (Nat.le_refl _) _) hone (by unfold maxLen; omega) (by omega) (by simp) ?_; intro v1 w1 hown1 hg1 hat1)
      go_ret
      exact ⟨_, rfl, by simpa using hown1, ((Below.refl _ _).alloc (Nat.le_refl _) _).grown hg1 (by simp) (fun k hk => by simp [Value.ownBlock] at hk; omega)⟩
    · obtain rfl : m = 16 := by omega
      go_enter Tryz.func80, Tryz.ntmps80
      go_wp2_with (at_builtin; refine wpList_append_any _ rfl (.tmp 12) (.tmp 18) _ rfl w.heap.size 175 i0 _ 4 24 Tryz.underlying78 hi0 hz0 hz1 hz2 rfl (by omega) (.slice (some ⟨w.heap.size, 0, none⟩) 0 0) 0 [] rfl (World.ownsRow_made w #[] 0 (Nat.le_refl _) (by unfold maxLen; omega) rfl) w.heap.size A 16 c _ rfl (hr.alloc (Nat.le_refl _) _) hone (by unfold maxLen; omega) (by omega) (by simp) ?_; intro v1 w1 hown1 hg1 hat1)
      go_ret
      exact ⟨_, rfl, by simpa using hown1, ((Below.refl _ _).alloc (Nat.le_refl _) _).grown hg1 (by simp) (fun k hk => by simp [Value.ownBlock] at hk; omega)⟩

theorem cnt_take_succ (code : Int) (L : List Rec) (k : Nat) (r : Rec) (h : L[k]? = some r) : cnt code (L.take (k + 1)) = cnt code (L.take k) + if r.code = code then 1 else 0 := by
  obtain ⟨hk, he⟩ := List.getElem?_eq_some_iff.1 h
  rw [List.take_succ_eq_append_getElem hk, he, cnt_snoc]
/-- The cells of a list of records that a slice reads as. -/
theorem reads_rec {w : World} {B : Nat} {A : Option Addr} {n : Nat} {l : List Rec} (h : Reads w B 4 A n (recsCells l)) {k : Nat} (hk : k < n) {r : Rec} (hr : l[k]? = some r) : ∃ ad, A = some ad ∧
    w.cell? (ad.add (k * 4)) = some (.int .i64 r.at_) ∧ w.cell? ⟨(ad.add (k * 4)).block, (ad.add (k * 4)).off + 1, none⟩ = some (.int .i64 r.code) ∧ w.cell? ⟨(ad.add (k * 4)).block, (ad.add (k * 4)).off + 2, none⟩ = some (.int .u32 r.s) ∧ w.cell? ⟨(ad.add (k * 4)).block, (ad.add (k * 4)).off + 3, none⟩ = some (.int .u32 r.k) := by
  obtain ⟨ad, rfl, _, hc⟩ := h.2 (by omega)
  have hcells := recsCells_get l k r hr
  have e : ∀ j, j ≠ 0 → ad.add (k * 4 + j) = ⟨(ad.add (k * 4)).block, (ad.add (k * 4)).off + j, none⟩ := by
    intro j hj
    rw [← add_of_add]
    generalize ad.add (k * 4) = y
    unfold Addr.add
    rw [if_neg hj]
  refine ⟨ad, rfl, hc (k * 4) _ ((hcells 0 (by omega)).trans rfl), ?_, ?_, ?_⟩
  · rw [← e 1 (by omega)]; exact hc (k * 4 + 1) _ ((hcells 1 (by omega)).trans rfl)
  · rw [← e 2 (by omega)]; exact hc (k * 4 + 2) _ ((hcells 2 (by omega)).trans rfl)
  · rw [← e 3 (by omega)]; exact hc (k * 4 + 3) _ ((hcells 3 (by omega)).trans rfl)

theorem same_any (A1 A2 : Option Addr) (n c1 c2 B : Nat) (l : List Rec) (w : World) (h1 : Reads w B 4 A1 n (recsCells l)) (h2 : Reads w B 4 A2 n (recsCells l)) (hn : n < 1073741823) :
    Calls Tryz.prog 79 #[.slice A1 n c1, .slice A2 n c2] w fun e w' => e = .returned (.bool true) ∧ ∃ k, w' = w.drewN k := by
  have hl : l.length = n := by have := h1.1; rw [recsCells_length] at this; omega
  have Hl := Lib.hid hl
  clear hl
  go_enter Tryz.func79, Tryz.ntmps79
  go_wp2_with fail
  go_loopw [5] (fun v5 wr => ∃ k q : Nat, k ≤ n ∧ v5 = .int .i64 k ∧ wr = w.drewN q) (fun v5 _ => n - (intOf v5).toNat)
  case atStart => exact ⟨0, 0, Nat.zero_le _, rfl, rfl⟩
  case round =>
    obtain ⟨k, q, hk, rfl, rfl⟩ := hrel
    by_cases hlt : k < n
    · obtain ⟨r, hr⟩ : ∃ r, l[k]? = some r := ⟨_, List.getElem?_eq_getElem (by rw [Hl.out]; exact hlt)⟩
      obtain ⟨a1, rfl, p0, p1, p2, p3⟩ := reads_rec h1 hlt hr
      obtain ⟨a2, rfl, r0, r1, r2, r3⟩ := reads_rec h2 hlt hr
      clear h1 h2 hr
      go_wp2_with fail
      go_quiet (fail)
      go_wp2_with fail
      exact ⟨⟨k + 1, _, by omega, by go_num, rfl⟩, by simp [intOf]; omega⟩
    · go_wp2_with fail
      go_ret
      exact ⟨rfl, q, rfl⟩
end Go.Proofs.YtbkkfkbgcklkgaaGreat
/- Valves: plain. -/
namespace Go.Proofs.YtbkkfkbgcklkgaaGreat
open Go.RowKit
set_option maxHeartbeats 4000000
set_option maxRecDepth 100000

theorem trip_value (v : ValveM) {c : Int} (hc : c ≠ 0) : (v.trip c).1.value = none ∧ (v.trip c).1.running = v.running := by
  unfold ValveM.trip
  rw [if_neg hc]
  exact ⟨rfl, rfl⟩
theorem off_none {v : ValveM} (h : v.value = none) : v.on = false := by simp [ValveM.on, h]
theorem off_stop {v : ValveM} (h : v.running = false) : v.on = false := by simp [ValveM.on, h]
theorem run_running (v : ValveM) (on : Bool) : (v.run on).running = on := by
  unfold ValveM.run
  split
  · assumption
  · rfl
theorem run_value (v : ValveM) (on : Bool) : (v.run on).value = v.value ∨ (v.run on).value = none := by
  unfold ValveM.run
  split
  · exact .inl rfl
  · exact .inr rfl
/-- What is on was on, with the same value. -/
def OnK (v v' : ValveM) : Prop := v'.on = true → v.on = true ∧ ∀ n, v.output n = v'.output n
theorem OnK.refl (v : ValveM) : OnK v v := fun h => ⟨h, fun _ => rfl⟩
theorem OnK.off {v v' : ValveM} (h : v'.on = false) : OnK v v' := fun h' => by rw [h] at h'; cases h'
theorem OnK.trans {v v' v'' : ValveM} (h : OnK v v') (h' : OnK v' v'') : OnK v v'' := fun h2 => ⟨(h (h' h2).1).1, fun n => ((h (h' h2).1).2 n).trans ((h' h2).2 n)⟩
theorem OnK.same {v v' : ValveM} (h1 : v'.running = v.running) (h2 : v'.held = v.held) (h3 : v'.value = v.value) : OnK v v' := by
  have e : v'.on = v.on := by simp [ValveM.on, h1, h2, h3]
  intro h
  refine ⟨e ▸ h, fun n => ?_⟩
  simp [ValveM.output, e, h3]
theorem ack_keep (v : ValveM) : OnK v v.ack := by
  unfold ValveM.ack
  split
  · exact .same rfl rfl rfl
  · exact .refl v
theorem run_latched (v : ValveM) (on : Bool) : (v.run on).latched = v.latched := by
  unfold ValveM.run
  split <;> rfl
theorem trip_latched (v : ValveM) {c : Int} (hc : c ≠ 0) : (v.trip c).1.latched ≠ 0 := by
  unfold ValveM.trip
  rw [if_neg hc]
  simp only
  split
  · exact hc
  · assumption
theorem run_false_on (v : ValveM) : (v.run false).on = false := by
  unfold ValveM.run
  split
  · rename_i h; simp [ValveM.on, h]
  · rfl
end Go.Proofs.YtbkkfkbgcklkgaaGreat
/- What a device stands at: sessions never come again, whatever is cut: plain. -/
namespace Go.Proofs.YtbkkfkbgcklkgaaGreat

/-- A device over a memory in which V is the greatest word. -/
structure DInv (max V : Int) (d : DevM) : Prop where
  p : d.p = DevM.small
  mx : d.max = max
  mem : d.m.Sound V
  up : d.state ≠ 6 → d.cell = ⟨max, V, false⟩ ∧ d.m.off = false
  le : V ≤ max
  hi : max < 4294967296
  pos : 0 < max
  ses : d.state = 2 ∨ d.state = 3 ∨ d.state = 4 → d.session = V ∧ 0 < V
  ses0 : d.session = 0 ∨ d.session = V
  num : d.session = 0 → d.number = 0
  num0 : 0 ≤ d.number
  run : d.valve.running = true ↔ d.state = 4
  val : d.valve.value ≠ none → d.valve.latched = 0
theorem dinv_first {max : Int} (h0 : 0 < max) (h1 : max < 4294967296) : DInv max 0 (DevM.first max) where
  p := rfl
  mx := rfl
  mem := ⟨by show 10 ≤ (List.replicate 16 (0 : UInt8)).length; decide, .inl ⟨rfl, rfl, rfl⟩⟩
  up := fun _ => ⟨rfl, rfl⟩
  le := by omega
  hi := h1
  pos := h0
  ses := fun h => by simp [DevM.first] at h
  ses0 := .inl rfl
  num := fun _ => rfl
  num0 := by show (0 : Int) ≤ 0; omega
  run := by show false = true ↔ (1 : Int) = 4; simp
  val := fun h => absurd rfl h
/-- The session is left: the output goes off, for good. -/
theorem DInv.leave {max V : Int} {d : DevM} (h : DInv max V d) (st : Int) (hst : st = 1 ∨ st = 5) (h6 : d.state ≠ 6) : DInv max V (d.leave st) ∧ (d.leave st).valve.on = false := by
  refine ⟨⟨h.p, h.mx, h.mem, fun _ => h.up h6, h.le, h.hi, h.pos, fun hh => ?_, .inl rfl, fun _ => rfl, by show (0 : Int) ≤ 0; omega, ?_, ?_⟩, run_false_on _⟩
  · exfalso
    have : st = 2 ∨ st = 3 ∨ st = 4 := hh
    omega
  · show (d.valve.run false).running = true ↔ st = 4
    rw [run_running]
    exact ⟨fun h => (by cases h), fun h => (by omega)⟩
  · intro hv
    show (d.valve.run false).latched = 0
    rw [run_latched]
    rcases run_value d.valve false with h1 | h1
    · exact h.val (fun h0 => hv (h1.trans h0))
    · exact absurd h1 hv
theorem DInv.trip {max V : Int} {d : DevM} (h : DInv max V d) (c : Int) (hc : c ≠ 0) : DInv max V (d.trip c) ∧ (d.trip c).valve.on = false ∧ (d.trip c).state = d.state ∧ (d.trip c).session = d.session ∧ (d.trip c).number = d.number := by
  obtain ⟨t1, t2⟩ := trip_value d.valve hc
  refine ⟨⟨h.p, h.mx, h.mem, h.up, h.le, h.hi, h.pos, h.ses, h.ses0, h.num, h.num0, ?_, fun hv => absurd t1 hv⟩, off_none t1, rfl, rfl, rfl⟩
  show (d.valve.trip c).1.running = true ↔ d.state = 4
  rw [t2]
  exact h.run
/-- A life's begin. -/
theorem DInv.life6 {max V : Int} {d : DevM} (h : DInv max V d) {m : MemM} {c : CellM} (hm : m.Sound V) : DInv max V (({ d with cell := c, m := m } : DevM).life 6) where
  p := h.p
  mx := h.mx
  mem := hm
  up := fun h => absurd rfl h
  le := h.le
  hi := h.hi
  pos := h.pos
  ses := fun hh => by simp [DevM.life] at hh
  ses0 := .inl rfl
  num := fun _ => rfl
  num0 := by show (0 : Int) ≤ 0; omega
  run := by show false = true ↔ (6 : Int) = 4; simp
  val := fun h => absurd rfl h
/-- A wish is begun: another session, above all; or none, and the output is off. -/
theorem DInv.begin_ {max V : Int} {d : DevM} (h : DInv max V d) (h6 : d.state ≠ 6) :
    d.begin_.1.valve.on = false ∧ ((DInv max V d.begin_.1 ∧ d.begin_.1.session = 0) ∨ (DInv max (V + 1) d.begin_.1 ∧ d.begin_.1.session = V + 1)) := by
  obtain ⟨hc, ho⟩ := h.up h6
  have hn := h.mem.nonneg
  by_cases hV : V < max
  · have hx := next_sound h.mem ho hV h.hi
    unfold DevM.begin_
    rw [hc]
    generalize (⟨max, V, false⟩ : CellM).next d.m = r at hx ⊢
    obtain ⟨c, m, s, e⟩ := r
    simp only [Prod.mk.injEq] at hx
    rcases hx with ⟨⟨rfl, rfl⟩, rfl, a3, a4⟩ | ⟨⟨rfl, rfl⟩, a3, _⟩
    · refine ⟨run_false_on _, .inr ⟨⟨h.p, h.mx, a3, fun _ => ⟨rfl, a4⟩, by omega, h.hi, h.pos, fun _ => ⟨rfl, by omega⟩, .inr rfl, fun hh => ?_, by show (0 : Int) ≤ 0; omega, ?_, fun hv => ?_⟩, rfl⟩⟩
      · exfalso
        have : V + 1 = 0 := hh
        omega
      · show (d.valve.run false).running = true ↔ (2 : Int) = 4
        rw [run_running]
        exact ⟨fun h => (by cases h), fun h => (by omega)⟩
      · show (d.valve.run false).latched = 0
        rw [run_latched]
        rcases run_value d.valve false with h1 | h1
        · exact h.val (fun h0 => hv (h1.trans h0))
        · exact absurd h1 hv
    · exact ⟨rfl, .inl ⟨h.life6 a3, rfl⟩⟩
  · have hx : (⟨max, V, false⟩ : CellM).next d.m = (⟨max, V, false⟩, d.m, 0, 80) := by
      unfold CellM.next
      rw [ho]
      simp only [Bool.or_false, Bool.false_eq_true, if_false]
      rw [if_pos (by omega)]
    unfold DevM.begin_
    rw [hc, hx]
    have hd : ({ d with cell := ⟨max, V, false⟩, m := d.m } : DevM) = d := by rw [← hc]
    simp only [hd, if_true]
    obtain ⟨t1, _, t3, _⟩ := h.trip 80 (by decide)
    obtain ⟨l1, l2⟩ := t1.leave 5 (.inr rfl) (by rw [t3]; exact h6)
    exact ⟨l2, .inl ⟨l1, rfl⟩⟩
/-- A call that accepts nothing. -/
def Still (max V : Int) (d d' : DevM) : Prop :=
  OnK d.valve d'.valve ∧ ((DInv max V d' ∧ (d'.session = d.session ∧ d'.number = d.number ∨ d'.session = 0)) ∨ (DInv max (V + 1) d' ∧ d'.session = V + 1))
/-- A call that accepts a unit. -/
structure Took (max V : Int) (d d' : DevM) (u : UnitM) : Prop where
  inv : DInv max V d'
  pos : 0 < V
  same : d'.session = d.session
  ses : d'.session = V
  num : d.number < d'.number
  us : u.session = d'.session
  un : u.number = d'.number
  on : d'.valve.on = true → d'.valve.output 2 = u.data
theorem Still.refl {max V : Int} {d : DevM} (h : DInv max V d) : Still max V d d := ⟨.refl _, .inl ⟨h, .inl ⟨rfl, rfl⟩⟩⟩
theorem DInv.odd {max V : Int} {d : DevM} (h : DInv max V d) (o : Int) : DInv max V { d with odd := o } := ⟨h.p, h.mx, h.mem, h.up, h.le, h.hi, h.pos, h.ses, h.ses0, h.num, h.num0, h.run, h.val⟩
theorem DInv.strange {max V : Int} {d : DevM} (h : DInv max V d) (h6 : d.state ≠ 6) :
    OnK d.valve d.strange.1.valve ∧ DInv max V d.strange.1 ∧ d.strange.1.state ≠ 6 ∧ (d.strange.1.session = d.session ∧ d.strange.1.number = d.number ∨ d.strange.1.session = 0) := by
  unfold DevM.strange
  by_cases hb : d.busy = true
  · simp only [hb, Bool.not_true, Bool.false_eq_true, if_false]
    by_cases ho : d.odd + 1 < 4
    · rw [if_pos ho]
      exact ⟨.refl _, h.odd _, h6, .inl ⟨rfl, rfl⟩⟩
    · rw [if_neg ho]
      have key : DInv max V (if d.state = 4 then ({ d with odd := d.odd + 1 } : DevM).trip 131 else { d with odd := d.odd + 1 }) ∧ (if d.state = 4 then ({ d with odd := d.odd + 1 } : DevM).trip 131 else { d with odd := d.odd + 1 }).state ≠ 6 := by
        split
        · obtain ⟨t1, _, t3, _⟩ := (h.odd (d.odd + 1)).trip 131 (by decide)
          exact ⟨t1, by rw [t3]; exact h6⟩
        · exact ⟨h.odd _, h6⟩
      obtain ⟨l1, l2⟩ := key.1.leave 1 (.inl rfl) key.2
      exact ⟨.off l2, l1, by show (1 : Int) ≠ 6; omega, .inr rfl⟩
  · simp only [Bool.not_eq_true] at hb
    simp only [hb, Bool.not_false, if_true]
    exact ⟨.refl _, h, h6, .inl ⟨trivial, trivial⟩⟩
theorem DInv.odds {max V : Int} {d : DevM} (h : DInv max V d) (h6 : d.state ≠ 6) (e : Int) : Still max V d (d.odds e).1 := by
  obtain ⟨a, b, _, c⟩ := h.strange h6
  exact ⟨a, .inl ⟨b, c⟩⟩
theorem DInv.wish {max V : Int} {d : DevM} (h : DInv max V d) (h6 : d.state ≠ 6) : Still max V d d.wish.1 := by
  have fresh : ∀ {g : DevM}, DInv max V g → g.state ≠ 6 → Still max V d g.begin_.1 := fun hg h6 => by
    obtain ⟨b1, b2⟩ := hg.begin_ h6
    refine ⟨.off b1, ?_⟩
    rcases b2 with ⟨b2, b3⟩ | ⟨b2, b3⟩
    · exact .inl ⟨b2, .inr b3⟩
    · exact .inr ⟨b2, b3⟩
  unfold DevM.wish
  split
  · obtain ⟨a, b, c, e⟩ := h.strange h6
    simp only
    split
    · exact fresh b c
    · split
      · exact ⟨a, .inl ⟨b, e⟩⟩
      · exact ⟨a, .inl ⟨b, e⟩⟩
  · exact fresh h h6
theorem DInv.alive {max V : Int} {d : DevM} (h : DInv max V d) : DInv max V d.alive ∧ OnK d.valve d.alive.valve :=
  ⟨⟨h.p, h.mx, h.mem, h.up, h.le, h.hi, h.pos, h.ses, h.ses0, h.num, h.num0, h.run, h.val⟩, .same rfl rfl rfl⟩
theorem DInv.take {max V : Int} {d : DevM} (h : DInv max V d) (h6 : d.state ≠ 6) (u : UnitM) : Still max V d (d.take u).1 ∨ Took max V d (d.take u).1 u := by
  unfold DevM.take
  split
  · split
    · exact .inl (h.wish h6)
    · exact .inl (h.odds h6 _)
  split
  · rename_i hk
    split
    · exact .inl (h.odds h6 _)
    · simp only
      split
      · rename_i h2
        have h3 : DInv max V ({ d with state := 3 } : DevM) := ⟨h.p, h.mx, h.mem, fun _ => h.up h6, h.le, h.hi, h.pos, fun _ => h.ses (.inl h2), h.ses0, h.num, h.num0, by
          show d.valve.running = true ↔ (3 : Int) = 4
          rw [h.run, h2]; omega, h.val⟩
        obtain ⟨a, b⟩ := h3.alive
        exact .inl ⟨b, .inl ⟨a, .inl ⟨rfl, rfl⟩⟩⟩
      · exact .inl (.refl h)
  split
  · rename_i hk
    simp only
    split
    · rename_i h3
      have hr : d.valve.running = false := by
        cases hb : d.valve.running
        · rfl
        · have := h.run.1 hb; omega
      have hval : (d.valve.run true).value = none := by
        unfold ValveM.run
        rw [if_neg (by rw [hr]; decide)]
      have h4 : DInv max V (({ d with state := 4 } : DevM).run true) := ⟨h.p, h.mx, h.mem, fun _ => h.up h6, h.le, h.hi, h.pos, fun _ => h.ses (.inr (.inl h3)), h.ses0, h.num, h.num0, by
        show (d.valve.run true).running = true ↔ (4 : Int) = 4
        rw [run_running]; simp, fun hv => absurd hval hv⟩
      obtain ⟨a, _⟩ := h4.alive
      refine .inl ⟨.off (off_none ?_), .inl ⟨a, .inl ⟨rfl, rfl⟩⟩⟩
      exact hval
    · exact .inl (.refl h)
  split
  · rename_i hk
    obtain ⟨k1, k2, k3, k4, k5, k6⟩ := hk
    obtain ⟨s1, s2⟩ := h.ses (.inr (.inr k2))
    have hr : d.valve.running = true := h.run.2 k2
    right
    refine ⟨⟨h.p, h.mx, h.mem, fun _ => h.up h6, h.le, h.hi, h.pos, fun _ => ⟨s1, s2⟩, h.ses0, fun hh => ?_, ?_, ?_, ?_⟩, s2, rfl, s1, k4, k3, rfl, ?_⟩
    · exfalso
      have : d.session = 0 := hh
      omega
    · have := h.num0
      show (0 : Int) ≤ u.number
      omega
    · show ((d.valve.come.hold _).take u.data).running = true ↔ d.state = 4
      have : ((d.valve.come.hold (decide (8 ≤ u.flags))).take u.data).running = d.valve.running := by
        unfold ValveM.take; split <;> rfl
      rw [this]
      exact h.run
    · intro hv
      show ((d.valve.come.hold (decide (8 ≤ u.flags))).take u.data).latched = 0
      have hv : ((d.valve.come.hold (decide (8 ≤ u.flags))).take u.data).value ≠ none := hv
      unfold ValveM.take at hv ⊢
      split at hv
      · rename_i hc
        rw [if_pos hc]
        simp only [Bool.and_eq_true, beq_iff_eq] at hc
        exact hc.2
      · rename_i hc
        rw [if_neg hc]
        exact h.val hv
    · intro hon
      have hon : ((d.valve.come.hold (decide (8 ≤ u.flags))).take u.data).on = true := hon
      show ((d.valve.come.hold (decide (8 ≤ u.flags))).take u.data).output 2 = u.data
      unfold ValveM.output
      rw [if_pos hon]
      by_cases hl : d.valve.latched = 0
      · have hc : ((d.valve.come.hold (decide (8 ≤ u.flags))).running && (d.valve.come.hold (decide (8 ≤ u.flags))).latched == 0) = true := by
          simp [ValveM.hold, ValveM.come, hr, hl]
        unfold ValveM.take
        rw [if_pos hc]
        rfl
      · exfalso
        have hc : ¬ ((d.valve.come.hold (decide (8 ≤ u.flags))).running && (d.valve.come.hold (decide (8 ≤ u.flags))).latched == 0) = true := by
          simp [ValveM.hold, ValveM.come, hl]
        unfold ValveM.take at hon
        rw [if_neg hc] at hon
        have hv : d.valve.value = none := by
          cases hv : d.valve.value
          · rfl
          · exact absurd (h.val (by rw [hv]; simp)) hl
        have : (d.valve.come.hold (decide (8 ≤ u.flags))).on = false := off_none hv
        rw [this] at hon
        cases hon
  split
  · rename_i hk
    obtain ⟨k1, k2, k3, k4, k5⟩ := hk
    obtain ⟨s1, s2⟩ := h.ses (.inr (.inr k2))
    have hval : ((d.valve.come.trip 80).1.run false).value = none := by
      rcases run_value (d.valve.come.trip 80).1 false with h1 | h1
      · exact h1.trans (trip_value d.valve.come (c := 80) (by decide)).1
      · exact h1
    right
    refine ⟨⟨h.p, h.mx, h.mem, fun _ => h.up h6, h.le, h.hi, h.pos, fun hh => ?_, h.ses0, fun hh => ?_, ?_, ?_, fun hv => absurd hval hv⟩, s2, rfl, s1, k4, k3, rfl, fun hon => ?_⟩
    · exfalso
      have : (5 : Int) = 2 ∨ (5 : Int) = 3 ∨ (5 : Int) = 4 := hh
      omega
    · exfalso
      have : d.session = 0 := hh
      omega
    · have := h.num0
      show (0 : Int) ≤ u.number
      omega
    · show ((d.valve.come.trip 80).1.run false).running = true ↔ (5 : Int) = 4
      rw [run_running]
      exact ⟨fun h => (by cases h), fun h => (by omega)⟩
    · have hon : ((d.valve.come.trip 80).1.run false).on = true := hon
      rw [off_none hval] at hon
      cases hon
  · exact .inl (h.odds h6 _)
theorem DInv.withLog {max V : Int} {d : DevM} (h : DInv max V d) (l : List Rec) : DInv max V { d with log := l } := ⟨h.p, h.mx, h.mem, h.up, h.le, h.hi, h.pos, h.ses, h.ses0, h.num, h.num0, h.run, h.val⟩
theorem Still.withLog {max V : Int} {d d' : DevM} (h : Still max V d d') (l : List Rec) : Still max V d { d' with log := l } := by
  obtain ⟨a, ⟨b, c⟩ | ⟨b, c⟩⟩ := h
  · exact ⟨a, .inl ⟨b.withLog l, c⟩⟩
  · exact ⟨a, .inr ⟨b.withLog l, c⟩⟩
theorem Took.withLog {max V : Int} {d d' : DevM} {u : UnitM} (h : Took max V d d' u) (l : List Rec) : Took max V d { d' with log := l } u :=
  ⟨h.inv.withLog l, h.pos, h.same, h.ses, h.num, h.us, h.un, h.on⟩
theorem DInv.read {max V : Int} {d : DevM} (h : DInv max V d) (h6 : d.state ≠ 6) (b : List UInt8) :
    Still max V d (d.read b).1 ∨ (decodeM b).2 = 0 ∧ Took max V d (d.read b).1 (decodeM b).1 := by
  unfold DevM.read
  simp only
  split
  · exact .inl (.refl h)
  · rename_i h0
    simp only [ne_eq, Decidable.not_not] at h0
    split
    · exact .inl (.refl h)
    split
    · exact .inl (.refl h)
    · rcases h.take h6 (decodeM b).1 with a | a
      · exact .inl a
      · exact .inr ⟨h0, a⟩
/-- A frame comes: nothing is accepted, or its unit is. -/
theorem DInv.receive {max V : Int} {d : DevM} (h : DInv max V d) (b : List UInt8) :
    Still max V d (d.receive b).1 ∨ (decodeM b).2 = 0 ∧ Took max V d (d.receive b).1 (decodeM b).1 := by
  unfold DevM.receive
  split
  · exact .inl (.refl h)
  · rename_i h6
    simp only
    split
    · exact h.read h6 b
    · rcases h.read h6 b with a | ⟨a, c⟩
      · exact .inl (a.withLog _)
      · exact .inr ⟨a, c.withLog _⟩
theorem DInv.tick {max V : Int} {d : DevM} (h : DInv max V d) (n : Int) : Still max V d (d.tick n).1 := by
  unfold DevM.tick
  split
  · exact .refl h
  split
  · exact .refl h
  · simp only
    have hs : ∀ s, DInv max V ({ d with since := s } : DevM) := fun s => ⟨h.p, h.mx, h.mem, h.up, h.le, h.hi, h.pos, h.ses, h.ses0, h.num, h.num0, h.run, h.val⟩
    split
    · obtain ⟨t1, t2, _, t4, t5⟩ := (hs (ticksM d.p.watch d.since n).1).trip 100 (by decide)
      exact ⟨.off t2, .inl ⟨t1, .inl ⟨t4, t5⟩⟩⟩
    · exact ⟨.refl _, .inl ⟨hs _, .inl ⟨rfl, rfl⟩⟩⟩
theorem DInv.write {max V : Int} {d : DevM} (h : DInv max V d) (b : List UInt8) (hold : Bool) : Still max V d (d.write b hold).1 := by
  unfold DevM.write
  split
  · exact .refl h
  split
  · exact .refl h
  · exact ⟨.refl _, .inl ⟨⟨h.p, h.mx, h.mem, h.up, h.le, h.hi, h.pos, h.ses, h.ses0, h.num, h.num0, h.run, h.val⟩, .inl ⟨rfl, rfl⟩⟩⟩
theorem DInv.ack {max V : Int} {d : DevM} (h : DInv max V d) : Still max V d d.ack.1 := by
  unfold DevM.ack
  split
  · exact .refl h
  split
  · rename_i hr
    refine ⟨ack_keep _, .inl ⟨⟨h.p, h.mx, h.mem, h.up, h.le, h.hi, h.pos, h.ses, h.ses0, h.num, h.num0, ?_, fun _ => ?_⟩, .inl ⟨rfl, rfl⟩⟩⟩
    · show d.valve.ack.running = true ↔ d.state = 4
      have : d.valve.ack.running = d.valve.running := by unfold ValveM.ack; split <;> rfl
      rw [this]; exact h.run
    · show d.valve.ack.latched = 0
      unfold ValveM.ack
      rw [if_pos hr]
  · exact .refl h
theorem DInv.reset {max V : Int} {d : DevM} (h : DInv max V d) (n : Int) : Still max V d (d.reset n).1 := by
  unfold DevM.reset
  split
  · exact .refl h
  · have hS : (if 0 < n then (d.m.on.arm (n - 1)).1 else d.m.on).Sound V := by split <;> first | exact h.mem.on.arm _ | exact h.mem.on
    have hO : (if 0 < n then (d.m.on.arm (n - 1)).1 else d.m.on).off = false := by split <;> first | exact MemM.arm_off _ _ | rfl
    have hp := h.pos
    obtain ⟨a1, a2⟩ := openM_sound hS hO (max := d.max) (by rw [h.mx]; omega)
    simp only
    generalize openM (if 0 < n then (d.m.on.arm (n - 1)).1 else d.m.on) d.max = r at a1 a2 ⊢
    obtain ⟨m', c, e⟩ := r
    rcases a2 with ⟨a2, a3, _⟩ | ⟨a2, _⟩
    · obtain ⟨rfl, rfl⟩ := Prod.mk.inj a2
      refine ⟨.off rfl, .inl ⟨⟨h.p, h.mx, a1, fun _ => ⟨by rw [h.mx], a3⟩, h.le, h.hi, h.pos, fun hh => ?_, .inl rfl, fun _ => rfl, by show (0 : Int) ≤ 0; omega, ?_, fun hv => absurd rfl hv⟩, .inr rfl⟩⟩
      · exfalso
        have : (1 : Int) = 2 ∨ (1 : Int) = 3 ∨ (1 : Int) = 4 := hh
        omega
      · show false = true ↔ (1 : Int) = 4
        simp
    · obtain ⟨rfl, rfl⟩ := Prod.mk.inj a2
      exact ⟨.off rfl, .inl ⟨h.life6 (c := d.cell) a1, .inr rfl⟩⟩
theorem DInv.arm {max V : Int} {d : DevM} (h : DInv max V d) (n : Int) : Still max V d { d with m := (d.m.arm n).1 } :=
  ⟨.refl _, .inl ⟨⟨h.p, h.mx, h.mem.arm n, fun h6 => ⟨(h.up h6).1, by rw [show ({ d with m := (d.m.arm n).1 } : DevM).m = (d.m.arm n).1 from rfl, MemM.arm_off]; exact (h.up h6).2⟩, h.le, h.hi, h.pos, h.ses, h.ses0, h.num, h.num0, h.run, h.val⟩, .inl ⟨rfl, rfl⟩⟩⟩
/-- One call: nothing is accepted; or a frame's unit is. -/
theorem DInv.step {max V : Int} {d : DevM} (h : DInv max V d) (o : OpM) :
    Still max V d (stepD d o) ∨ ∃ b, frameD d o = some b ∧ (decodeM b).2 = 0 ∧ Took max V d (stepD d o) (decodeM b).1 := by
  unfold stepD
  split
  · rename_i b hb
    rcases h.receive b with a | ⟨a, c⟩
    · exact .inl a
    · exact .inr ⟨b, hb, a, c⟩
  · left
    split
    · exact h.tick _
    split
    · exact h.write _ _
    split
    · exact h.ack
    split
    · exact h.reset _
    split
    · exact h.arm _
    · exact .refl h
theorem Still.session {max V : Int} {d d' : DevM} (hd : DInv max V d) (h : Still max V d d') (he : d'.session = d.session) : d'.number = d.number := by
  have h0 := hd.mem.nonneg
  obtain ⟨_, ⟨a, b | b⟩ | ⟨a, b⟩⟩ := h
  · exact b.2
  · rw [a.num b, hd.num (he ▸ b)]
  · exfalso
    rcases hd.ses0 with c | c <;> omega
/-- The last pair that was accepted lies below all that can come. -/
structure RiseD (V s k : Int) (d : DevM) : Prop where
  lo : 0 ≤ s
  hi : s ≤ V
  num : 0 < s → d.session = s → k ≤ d.number
/-- A call that accepts: a pair above the last one, the unit's own, and its data is what is put out; another one: nothing comes on, and the last pair stays. -/
theorem rise_stepD {max V s k : Int} {d : DevM} (h : DInv max V d) (hr : RiseD V s k d) (o : OpM) :
    (∃ b, frameD d o = some b ∧ (decodeM b).2 = 0 ∧ (stepD d o).session = d.session ∧ (stepD d o).number ≠ d.number ∧ s ≤ (stepD d o).session ∧ ((stepD d o).session = s → k < (stepD d o).number) ∧
      (decodeM b).1.session = (stepD d o).session ∧ (decodeM b).1.number = (stepD d o).number ∧ ((stepD d o).valve.on = true → (stepD d o).valve.output 2 = (decodeM b).1.data) ∧
      DInv max V (stepD d o) ∧ RiseD V (stepD d o).session (stepD d o).number (stepD d o)) ∨
    (((stepD d o).session = d.session → (stepD d o).number = d.number) ∧ OnK d.valve (stepD d o).valve ∧ ∃ V', DInv max V' (stepD d o) ∧ RiseD V' s k (stepD d o)) := by
  obtain ⟨r1, r2, r3⟩ := hr
  rcases h.step o with hs | ⟨b, hb, h0, ht⟩
  · right
    refine ⟨hs.session h, hs.1, ?_⟩
    obtain ⟨_, ⟨a, c | c⟩ | ⟨a, c⟩⟩ := hs
    · exact ⟨V, a, r1, r2, fun h1 h2 => by rw [c.2]; exact r3 h1 (c.1 ▸ h2)⟩
    · exact ⟨V, a, r1, r2, fun h1 h2 => by omega⟩
    · exact ⟨V + 1, a, r1, by omega, fun h1 h2 => by omega⟩
  · left
    have hn := ht.num
    have hp := ht.pos
    have hv := ht.ses
    refine ⟨b, hb, h0, ht.same, by omega, by omega, fun e => ?_, ht.us, ht.un, ht.on, ht.inv, ⟨by omega, by omega, fun _ _ => by omega⟩⟩
    have := r3 (by omega) (ht.same ▸ e)
    omega
/-- What is on is on while it runs with nothing latched; what is off is zeros. -/
theorem DInv.sees {max V : Int} {d : DevM} (h : DInv max V d) : (d.see.on = true → d.see.state = 4 ∧ d.see.latched = 0) ∧ (d.see.on = false → d.see.out = [0, 0]) := by
  constructor
  · intro hon
    have hon : d.valve.on = true := hon
    simp only [ValveM.on, Bool.and_eq_true] at hon
    refine ⟨h.run.1 hon.1.1, h.val (fun e => ?_)⟩
    rw [e] at hon
    simp at hon
  · intro hoff
    have hoff : d.valve.on = false := hoff
    show d.valve.output d.p.out = [0, 0]
    unfold ValveM.output
    rw [hoff, h.p]
    rfl
end Go.Proofs.YtbkkfkbgcklkgaaGreat
