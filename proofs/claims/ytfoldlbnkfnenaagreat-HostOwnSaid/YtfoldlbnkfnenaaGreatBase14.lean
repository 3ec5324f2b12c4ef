/- The base of the laws of the host, part 14: contracts and plain lemmas, no statement. -/
import Derived.Test.YtfoldlbnkfnenaaGreatBase13
/- Both hosts alike, in one memory: what the laws' walks carry. -/
namespace Go.Proofs.YtfoldlbnkfnenaaGreat
open Go.RowKit
set_option maxHeartbeats 10000000
set_option maxRecDepth 100000

theorem RHIs.base {B B' b : Nat} {w : World} {m : HostM} {F : Nat → Prop} (h : RHIs B w b m F) (hB : B' ≤ B) : RHIs B' w b m F := by
  obtain ⟨A, c, vv, val, h⟩ := h
  exact ⟨A, c, vv, val, { h with lo := fun x hx => by have := h.lo x hx; omega }⟩
/-- Both hosts, made one behind the other. -/
theorem Pair.new {B a b : Nat} {w1 w2 : World} {m m' : HostM} {F1 F2 : Nat → Prop} (h1 : HostIs B w1 a m F1) (h2 : RHIs w1.heap.size w2 b m' F2) (hb : Below w1.heap.size w1 w2) : Pair B w2 a b m m' F1 F2 where
  host := h1.keepS (S := fun _ => False) (Keep.of_below hb) (fun _ _ h => h)
  ref := h2.base h1.Ble
  dj := fun x hx h2x => by have e1 := (h1.lo x hx).2; have e2 := (h2.lo x h2x).1; omega
/-- Both hosts stand alike; all that is theirs lies in T. -/
structure Two (B : Nat) (w : World) (a b : Nat) (m : HostM) (T : Nat → Prop) : Prop where
  pair : ∃ F1 F2, Pair B w a b m m F1 F2 ∧ ∀ x, F1 x ∨ F2 x → T x
  good : m.Good
  live : m.Live
  lt : ∀ x, T x → x < w.heap.size
section
variable {B a b : Nat} {w w' : World} {m : HostM} {T T' : Nat → Prop}
theorem Two.below (h : Two B w a b m T) (hb : Below w.heap.size w w') : Two B w' a b m T := by
  obtain ⟨F1, F2, hP, hT⟩ := h.pair
  exact ⟨⟨F1, F2, hP.below hb, hT⟩, h.good, h.live, fun x hx => by have := h.lt x hx; have := hb.size; omega⟩
theorem Two.Ble (h : Two B w a b m T) : B ≤ w.heap.size := by
  obtain ⟨F1, F2, hP, _⟩ := h.pair
  exact hP.host.Ble
theorem live_new (p : ParM) : (HostM.new p).Live := fun h => absurd rfl h
theorem two_new (p : ParM) (ho : p.Ok) (hp : p.lawful = true) {w1 w2 : World} {F1 F2 : Nat → Prop} (h1 : HostIs B w1 a (HostM.new p) F1) (h2 : RHIs w1.heap.size w2 b (HostM.new p) F2) (hb : Below w1.heap.size w1 w2) : Two B w2 a b (HostM.new p) (fun x => F1 x ∨ F2 x) :=
  ⟨⟨F1, F2, Pair.new h1 h2 hb, fun _ h => h⟩, HostM.good_new p ho hp [], live_new p, fun x hx => by
    rcases hx with hx | hx
    · have := (h1.lo x hx).2; have := hb.size; omega
    · exact (h2.lo x hx).2⟩
theorem grow_lt (hT : ∀ x, T x → x < w.heap.size) (hs : w.heap.size ≤ w'.heap.size) : ∀ x, grow T w w' x → x < w'.heap.size := by
  intro x hx
  rcases hx with hx | hx
  · have := hT x hx; omega
  · exact hx.2
/-- One call of the law's. -/
theorem two_step (h : Two B w a b m T) (hlen : m.log.length < 1073741600) (o : OpM) (A : Option Addr) (c : Nat) (ho : o.Ok) (hr : Reads w w.heap.size 1 A o.data.length (u8c o.data)) (hdj : 0 < o.data.length → ∀ ad, A = some ad → ad.block < B ∨ ¬ T ad.block) (hoc : o.data.length ≤ c) (hod : o.data.length ≤ 140737488351232) :
    Calls Tryz.prog 26 #[.pointer (some ⟨a, 0, none⟩), .pointer (some ⟨b, 0, none⟩), opVal o (.slice A o.data.length c)] w fun e w' => e = .returned (.bool true) ∧ Two B w' a b (stepM m o) (grow T w w') ∧ Keep T w w' ∧ Below B w w' := by
  obtain ⟨F1, F2, hP, hT⟩ := h.pair
  refine (l14step_any B a b m F1 F2 o A c w hP h.good hlen ho hr (fun hn ad e => ?_) hoc hod).mono ?_
  · rcases hdj hn ad e with h1 | h1
    · exact ⟨fun hx => by have := (hP.host.lo _ hx).1; omega, fun hx => by have := (hP.ref.lo _ hx).1; omega⟩
    · exact ⟨fun hx => h1 (hT _ (.inl hx)), fun hx => h1 (hT _ (.inr hx))⟩
  rintro e w' ⟨he, F1', F2', hR⟩
  refine ⟨he, ⟨⟨F1', F2', hR.pair, ?_⟩, stepM_good h.good o, step_live h.good h.live o, grow_lt h.lt hR.keep.size⟩, hR.keep.mono (fun x _ hx => hT x hx), hR.belowB hP⟩
  rintro x (hx | hx)
  · rcases hR.sub1 x hx with h1 | h1
    · exact .inl (hT x (.inl h1))
    · exact .inr ⟨h1, (hR.pair.host.lo x hx).2⟩
  · rcases hR.sub2 x hx with h1 | h1
    · exact .inl (hT x (.inr h1))
    · exact .inr ⟨h1, (hR.pair.ref.lo x hx).2⟩
theorem two_frame (h : Two B w a b m T) (o : OpM) (A : Option Addr) (c Br : Nat) (ho : o.Ok) (hr : Reads w Br 1 A o.data.length (u8c o.data)) (hBr : Br ≤ w.heap.size) (hoc : o.data.length ≤ c) (hod : o.data.length ≤ 140737488351232) :
    Calls Tryz.prog 21 #[.pointer (some ⟨b, 0, none⟩), opVal o (.slice A o.data.length c)] w fun e w' => ∃ v, e = .returned (.tuple #[v, .bool (frameM m o).isSome]) ∧ (frameM m o = none → v = .slice none 0 0) ∧ (∀ f, frameM m o = some f → w'.ownsRow w.heap.size 5 1 v f.length (u8c f)) ∧ Below w.heap.size w w' := by
  obtain ⟨F1, F2, hP, _⟩ := h.pair
  exact l14Frame_any B b m F2 o A c Br w hP.ref h.good.inv ho hr hBr hoc hod
theorem two_see (h : Two B w a b m T) : Calls Tryz.prog 24 #[.pointer (some ⟨a, 0, none⟩)] w fun e w' => ∃ x, e = .returned (endVal m.see x) ∧ w'.ownsRow w.heap.size 5 1 x m.see.out.length (u8c m.see.out) ∧ Below w.heap.size w w' := by
  obtain ⟨F1, F2, hP, _⟩ := h.pair
  exact hostSee_any B a m F1 w hP.host h.good.inv
/-- The program's host has sent, the reference's not yet. -/
structure Half (B : Nat) (w : World) (a b : Nat) (m : HostM) (T T' : Nat → Prop) : Prop where
  pair : ∃ F1 F2, Pair B w a b m.send.1 m F1 F2 ∧ (∀ x, F1 x → T' x) ∧ ∀ x, F2 x → T x
  good : m.Good
  live : m.Live
  lt : ∀ x, T' x → x < w.heap.size
  sub : ∀ x, T x → T' x
theorem Half.below (h : Half B w a b m T T') (hb : Below w.heap.size w w') : Half B w' a b m T T' := by
  obtain ⟨F1, F2, hP, hT, hT2⟩ := h.pair
  exact ⟨⟨F1, F2, hP.below hb, hT, hT2⟩, h.good, h.live, fun x hx => by have := h.lt x hx; have := hb.size; omega, h.sub⟩
theorem two_send (h : Two B w a b m T) (hlen : m.log.length < 1073741600) :
    Calls Tryz.prog 19 #[.pointer (some ⟨a, 0, none⟩)] w fun e w' => ∃ x, e = .returned (.tuple #[x, .int .i64 m.send.2.2]) ∧ w'.ownsRow w.heap.size 5 1 x m.send.2.1.length (u8c m.send.2.1) ∧ Half B w' a b m T (grow T w w') ∧ Keep T w w' ∧ Below B w w' := by
  obtain ⟨F1, F2, hP, hT⟩ := h.pair
  refine (hostSend_any B a m F1 w hP.host h.good.inv (by omega)).mono ?_
  rintro e w' ⟨x, he, hx, t⟩
  refine ⟨x, he, hx, ⟨⟨_, _, hP.onHost t, ?_, fun x hx => hT x (.inr hx)⟩, h.good, h.live, grow_lt h.lt t.keep.size, fun x hx => .inl hx⟩, t.keep.mono (fun x _ hx => hT x (.inl hx)), HostTo.belowB hP.host t⟩
  rintro x (hx | hx)
  · exact .inl (hT x (.inl hx))
  · exact .inr hx
/-- .. the reference's too; what the program's host answered stays. -/
theorem half_send (h : Half B w a b m T T') (hlen : m.log.length < 1073741600) :
    Calls Tryz.prog 20 #[.pointer (some ⟨b, 0, none⟩)] w fun e w' => ∃ x, e = .returned (.tuple #[x, .int .i64 m.send.2.2]) ∧ w'.ownsRow w.heap.size 5 1 x m.send.2.1.length (u8c m.send.2.1) ∧ Two B w' a b m.send.1 (grow T' w w') ∧ Keep T w w' ∧ Below B w w' := by
  obtain ⟨F1, F2, hP, hT, hT2⟩ := h.pair
  refine (rhSend_any B b m F2 w hP.ref h.good (by omega)).mono ?_
  rintro e w' ⟨x, he, hx, t⟩
  refine ⟨x, he, hx, ⟨⟨_, _, hP.onRef t, ?_⟩, h.good.send, Live.send h.good h.live, grow_lt h.lt t.keep.size⟩, t.keep.mono (fun x _ hx => hT2 x hx), RHTo.belowB hP.ref hP.host.Ble t⟩
  rintro x (hx | hx)
  · exact .inl (hT x hx)
  · rcases hx with hx | hx
    · exact .inl (h.sub x (hT2 x hx))
    · exact .inr hx
end
end Go.Proofs.YtfoldlbnkfnenaaGreat
/- A burst turned in a frame is seen by the check: plain. -/
namespace Go.Proofs.YtfoldlbnkfnenaaGreat

theorem crcZn_zero (n : Nat) : crcZn n 0#32 = 0#32 := by
  induction n with
  | zero => rfl
  | succ n ih => rw [crcZn, crcZ_zero, ih]
theorem crcByte_xor (s d : BitVec 32) (c : UInt8) : crcByte (s ^^^ d) c = crcByte s c ^^^ crcZn 8 d := by
  unfold crcByte
  have e : ∀ x : BitVec 32, s ^^^ d ^^^ x = s ^^^ x ^^^ d := fun x => by rw [BitVec.xor_assoc, BitVec.xor_comm d, ← BitVec.xor_assoc]
  rw [e, crcZn_xor]
theorem crcOf_xor (s d : BitVec 32) (l : List UInt8) : crcOf (s ^^^ d) l = crcOf s l ^^^ crcZn (8 * l.length) d := by
  induction l generalizing s d with
  | nil => rfl
  | cons c l ih =>
    show crcOf (crcByte (s ^^^ d) c) l = crcOf (crcByte s c) l ^^^ _
    rw [crcByte_xor, ih, List.length_cons, ← crcZn_add]
    congr 2
    omega
theorem crcByte_turn (s : BitVec 32) (c m : UInt8) : crcByte s (c ^^^ m) = crcByte s c ^^^ crcZn 8 (m.toBitVec.setWidth 32 <<< 24) := by
  unfold crcByte
  rw [UInt8.toBitVec_xor, BitVec.setWidth_xor, BitVec.shiftLeft_xor_distrib, ← BitVec.xor_assoc, crcZn_xor]
theorem crcOf_set (s : BitVec 32) (m : UInt8) (l : List UInt8) (i : Nat) (hi : i < l.length) : crcOf s (l.set i ((l.getD i 0) ^^^ m)) = crcOf s l ^^^ crcZn (8 + 8 * (l.length - 1 - i)) (m.toBitVec.setWidth 32 <<< 24) := by
  induction l generalizing s i with
  | nil => simp at hi
  | cons c l ih =>
    cases i with
    | zero =>
      show crcOf (crcByte s (c ^^^ m)) l = crcOf (crcByte s c) l ^^^ _
      rw [crcByte_turn, crcOf_xor, ← crcZn_add]
      congr 2
    | succ i =>
      show crcOf (crcByte s c) (l.set i ((l.getD i 0) ^^^ m)) = crcOf (crcByte s c) l ^^^ _
      rw [ih _ i (by simpa using hi)]
      congr 2
      simp
      omega
theorem turn_one (r : Nat) (hr : r < 8) : crcZn 8 ((128 >>> UInt8.ofNat r : UInt8).toBitVec.setWidth 32 <<< 24) = crcZn (39 - r) 1#32 := by
  have key : ∀ r : Fin 8, crcZn 8 ((128 >>> UInt8.ofNat r.val : UInt8).toBitVec.setWidth 32 <<< 24) = crcZn (39 - r.val) 1#32 := by decide +kernel
  exact key ⟨r, hr⟩
theorem crcOf_turnBit (b : List UInt8) (k : Nat) (hk : k < 8 * b.length) : crcOf 0#32 (turnBit b k) = crcOf 0#32 b ^^^ crcZn (31 + 8 * b.length - k) 1#32 := by
  unfold turnBit
  rw [crcOf_set _ _ _ _ (by omega), crcZn_add, turn_one _ (Nat.mod_lt _ (by omega)), ← crcZn_add]
  congr 2
  omega
theorem turnBit_length (b : List UInt8) (k : Nat) : (turnBit b k).length = b.length := by simp [turnBit]
theorem turnTo_len (word : Int) (size frm : Nat) (b : List UInt8) (k : Nat) : (turnTo word size frm b k).length = b.length := by
  induction k with
  | zero => rfl
  | succ k ih => unfold turnTo; split <;> simp [turnBit_length, ih]
/-- What the first k bits of a burst are worth. -/
def worth (word : Int) (size : Nat) : Nat → BitVec 32
  | 0 => 0#32
  | k + 1 => if wbit word (size - 1 - k) then worth word size k ^^^ crcZn (size - 1 - k) 1#32 else worth word size k
theorem crcOf_turnTo (word : Int) (size frm : Nat) (b : List UInt8) (k : Nat) (hk : k ≤ size) (hf : frm + size ≤ 8 * b.length) :
    crcOf 0#32 (turnTo word size frm b k) = crcOf 0#32 b ^^^ crcZn (32 + (8 * b.length - frm - size)) (worth word size k) := by
  induction k with
  | zero => simp [turnTo, worth, crcZn_zero]
  | succ k ih =>
    have ih := ih (by omega)
    unfold turnTo worth
    split
    · rw [crcOf_turnBit _ _ (by rw [turnTo_len]; omega), ih, turnTo_len, crcZn_xor, ← crcZn_add, BitVec.xor_assoc]
      congr 3
      omega
    · exact ih
theorem one_shl (j : Nat) (hj : j < 32) : crcZn j 1#32 = 1#32 <<< j := by
  have key : ∀ j : Fin 32, crcZn j.val 1#32 = 1#32 <<< j.val := by decide +kernel
  exact key ⟨j, hj⟩
theorem worth_bit (word : Int) (size k j : Nat) (hs : size ≤ 32) (hk : k ≤ size) (hj : j < size) : (worth word size k).getLsbD j = (decide (size - 1 - j < k) && wbit word j) := by
  induction k with
  | zero => simp [worth]
  | succ k ih =>
    have ih := ih (by omega)
    unfold worth
    have e : ((1#32) <<< (size - 1 - k)).getLsbD j = decide (j = size - 1 - k) := by
      rw [← BitVec.twoPow_eq, BitVec.getLsbD_twoPow]
      have h32 : size - 1 - k < 32 := by omega
      simp only [h32, decide_true, Bool.true_and]
      by_cases h : j = size - 1 - k
      · simp [h]
      · have : ¬ size - 1 - k = j := fun e => h e.symm
        simp [h, this]
    by_cases h : j = size - 1 - k
    · subst h
      have h1 : decide (size - 1 - (size - 1 - k) < k) = false := by simp; omega
      have h2 : decide (size - 1 - (size - 1 - k) < k + 1) = true := by simp; omega
      rw [h1, Bool.false_and] at ih
      rw [h2, Bool.true_and]
      split
      · rename_i hw
        rw [BitVec.getLsbD_xor, ih, one_shl _ (by omega), e, hw]
        simp
      · rename_i hw
        rw [ih]
        simpa using hw
    · have h3 : decide (size - 1 - j < k + 1) = decide (size - 1 - j < k) := by simp; omega
      rw [h3]
      split
      · rw [BitVec.getLsbD_xor, ih, one_shl _ (by omega), e]
        simp [h]
      · exact ih
theorem sizeM_le (word : Int) (k : Nat) : sizeTo word k ≤ k := by
  induction k with
  | zero => simp [sizeTo]
  | succ k ih => unfold sizeTo; split <;> omega
theorem sizeTo_bit (word : Int) (k : Nat) (h : sizeTo word k ≠ 0) : wbit word (sizeTo word k - 1) = true := by
  induction k with
  | zero => simp [sizeTo] at h
  | succ k ih =>
    unfold sizeTo at h ⊢
    split
    · rename_i hw; simpa using hw
    · rename_i hw
      rw [if_neg hw] at h
      exact ih h
/-- A burst is seen. -/
theorem burst_crc {b x : List UInt8} {at_ word : Int} (h : burstM b at_ word = some x) (hb : crcOf 0#32 b = 0#32) : crcOf 0#32 x ≠ 0#32 ∧ x.length = b.length := by
  unfold burstM at h
  simp only at h
  split at h
  · cases h
  · rename_i hs
    injection h with h
    subst h
    have hs0 : sizeTo word 32 ≠ 0 := fun e => hs (.inl e)
    have hs1 : sizeTo word 32 ≤ 8 * b.length := by
      rcases Nat.lt_or_ge (8 * b.length) (sizeTo word 32) with h | h
      · exact absurd (.inr h) hs
      · exact h
    have hs2 := sizeM_le word 32
    have hfr : (at_ % 18446744073709551616).toNat % (8 * b.length - sizeTo word 32 + 1) < 8 * b.length - sizeTo word 32 + 1 := Nat.mod_lt _ (by omega)
    refine ⟨?_, turnTo_len _ _ _ _ _⟩
    rw [crcOf_turnTo _ _ _ _ _ (Nat.le_refl _) (by omega), hb, BitVec.zero_xor]
    intro h0
    have h1 := crcZn_inj _ _ h0
    have h2 := worth_bit word (sizeTo word 32) (sizeTo word 32) (sizeTo word 32 - 1) hs2 (Nat.le_refl _) (by omega)
    rw [h1, sizeTo_bit word 32 hs0] at h2
    simp at h2
    omega
end Go.Proofs.YtfoldlbnkfnenaaGreat
/- How a row opens a list of calls (a slice of structs of seven fields, one of them a slice of bytes): read as a list of ops. -/
namespace Go.Proofs.YtfoldlbnkfnenaaGreat
open Go.ChangeShapes Go.WideShapes Go.RowKit Go.Deep

/-- The cells of an op. -/
def opCells (o : OpM) (x : Value) : Array Value := #[.int .i64 o.kind, .int .i64 o.n, .int .i64 o.flags, .bool o.odd, x, .int .i64 o.at_, .int .u32 o.word]
/-- Op i of a list in memory, its data among what is below B. -/
def OpAt (w : World) (B : Nat) (ad : Addr) (i : Nat) (o : OpM) : Prop :=
  o.Ok ∧ o.data.length ≤ 140737488351232 ∧ ∃ D c, (∀ j u, (opCells o (.slice D o.data.length c))[j]? = some u → w.cell? (ad.add (i * 7 + j)) = some u) ∧ Reads w B 1 D o.data.length (u8c o.data) ∧ o.data.length ≤ c ∧ (D = none → o.data.length = 0)
/-- A list of ops in memory. -/
def OpsAt (w : World) (B : Nat) (A : Option Addr) (n : Nat) (l : List OpM) : Prop := l.length = n ∧ (0 < n → ∃ ad, A = some ad ∧ ad.block < B ∧ ∀ i o, l[i]? = some o → OpAt w B ad i o)
theorem OpAt.below {w w' : World} {B : Nat} {ad : Addr} {i : Nat} {o : OpM} (h : OpAt w B ad i o) (hb : Below B w w') (ha : ad.block < B) : OpAt w' B ad i o := by
  obtain ⟨h1, h2, D, c, h3, h4, h5⟩ := h
  exact ⟨h1, h2, D, c, fun j u hu => (hb.cell (by rw [block_of_add]; exact ha)).trans (h3 j u hu), h4.below hb, h5⟩
theorem OpsAt.below {w w' : World} {B n : Nat} {A : Option Addr} {l : List OpM} (h : OpsAt w B A n l) (hb : Below B w w') : OpsAt w' B A n l := by
  refine ⟨h.1, fun hn => ?_⟩
  obtain ⟨ad, e, ha, h3⟩ := h.2 hn
  exact ⟨ad, e, ha, fun i o ho => (h3 i o ho).below hb ha⟩

theorem addr7 (ad : Addr) (k j : Nat) (hj : j ≠ 0) : ad.add (k * 7 + j) = ⟨(ad.add (k * 7)).block, (ad.add (k * 7)).off + j, none⟩ := by
  rw [← add_of_add]
  generalize ad.add (k * 7) = y
  unfold Addr.add
  rw [if_neg hj]
/-- One op of the list, as a walk wants it. -/
theorem ops_at {w : World} {B n : Nat} {A : Option Addr} {l : List OpM} (h : OpsAt w B A n l) {k : Nat} (hk : k < n) : ∃ ad o D c, A = some ad ∧ l[k]? = some o ∧
    (w.cell? (ad.add (k * 7)) = some (.int .i64 o.kind) ∧ w.cell? ⟨(ad.add (k * 7)).block, (ad.add (k * 7)).off + 1, none⟩ = some (.int .i64 o.n) ∧ w.cell? ⟨(ad.add (k * 7)).block, (ad.add (k * 7)).off + 2, none⟩ = some (.int .i64 o.flags) ∧
      w.cell? ⟨(ad.add (k * 7)).block, (ad.add (k * 7)).off + 3, none⟩ = some (.bool o.odd) ∧ w.cell? ⟨(ad.add (k * 7)).block, (ad.add (k * 7)).off + 4, none⟩ = some (.slice D o.data.length c) ∧
      w.cell? ⟨(ad.add (k * 7)).block, (ad.add (k * 7)).off + 5, none⟩ = some (.int .i64 o.at_) ∧ w.cell? ⟨(ad.add (k * 7)).block, (ad.add (k * 7)).off + 6, none⟩ = some (.int .u32 o.word)) ∧
    o.Ok ∧ Reads w B 1 D o.data.length (u8c o.data) ∧ o.data.length ≤ c ∧ o.data.length ≤ 140737488351232 ∧ ad.block < B := by
  obtain ⟨ad, hA, hb, hall⟩ := h.2 (by omega)
  have hkl : k < l.length := by rw [h.1]; exact hk
  obtain ⟨o, ho⟩ : ∃ o, l[k]? = some o := ⟨_, List.getElem?_eq_getElem hkl⟩
  obtain ⟨h1, h2, D, c, h3, h4, h5, _⟩ := hall k o ho
  refine ⟨ad, o, D, c, hA, ho, ⟨h3 0 _ rfl, ?_, ?_, ?_, ?_, ?_, ?_⟩, h1, h4, h5, h2, hb⟩
  · rw [← addr7 ad k 1 (by omega)]; exact h3 1 _ rfl
  · rw [← addr7 ad k 2 (by omega)]; exact h3 2 _ rfl
  · rw [← addr7 ad k 3 (by omega)]; exact h3 3 _ rfl
  · rw [← addr7 ad k 4 (by omega)]; exact h3 4 _ rfl
  · rw [← addr7 ad k 5 (by omega)]; exact h3 5 _ rfl
  · rw [← addr7 ad k 6 (by omega)]; exact h3 6 _ rfl

section
variable {H : Type} {enc : TypeId × Value → H} {P : Program} {W : World} {base : Nat} {spare : Nat → Bool} {held : Bool}
theorem weightsAll_mem {e : TypeId} {d : DataW H} : ∀ {l : List (DataW H)}, d ∈ l → ∀ n ∈ d.weights P e, n ∈ DataW.weightsAll P e l
  | x :: l, hd, n, hn => by
    simp only [DataW.weightsAll, List.mem_append]
    rcases List.mem_cons.1 hd with rfl | hd
    · exact .inl hn
    · exact .inr (weightsAll_mem hd n hn)
theorem reads_ops {t e te : TypeId} {f0 f1 f2 f3 f4 f5 f6 : Field} {a : Option Addr} {len cap : Nat} {d : DataW H} {ps : List MemPlace} {ts : List TypeId} {ds : List (DataW H)} {jj : Nat}
    (hsz : (DataW.weightsEach P ts ds).all (· ≤ reachBytes) = true) (ht : ts[jj]? = some t) (hd : ds[jj]? = some d)
    (hu : P.underlying t = some (.slice e)) (he : P.underlying e = some (.struct #[f0, f1, f2, f3, f4, f5, f6])) (hc : P.cellsOf e = 7)
    (h0 : P.underlying f0.type = some (.int .i64)) (h1 : P.underlying f1.type = some (.int .i64)) (h2 : P.underlying f2.type = some (.int .i64)) (h3 : P.underlying f3.type = some .bool)
    (h4 : P.underlying f4.type = some (.slice te)) (h4e : P.underlying te = some (.int .u8)) (h4c : P.cellsOf te = 1) (h4b : P.bytesOf te = 1) (h5 : P.underlying f5.type = some (.int .i64)) (h6 : P.underlying f6.type = some (.int .u32))
    (o0 : f0.offset = 0 ∧ f1.offset = 1 ∧ f2.offset = 2 ∧ f3.offset = 3 ∧ f4.offset = 4 ∧ f5.offset = 5 ∧ f6.offset = 6)
    (c0 : P.cellsOf f0.type = 1 ∧ P.cellsOf f1.type = 1 ∧ P.cellsOf f2.type = 1 ∧ P.cellsOf f3.type = 1 ∧ P.cellsOf f4.type = 1 ∧ P.cellsOf f5.type = 1 ∧ P.cellsOf f6.type = 1)
    (h : DataW.Trod enc P W base spare held t (.slice a len cap) d ps) :
    ∃ l : List OpM, OpsAt W W.heap.size a len l := by
  obtain ⟨fuel, hf⟩ := h
  rcases Go.Deep.open_slice hu hf with ⟨hcs, _⟩ | ⟨x, l, c, m, n, D, Pl, hcs, _, hl, _, hm, hx, heach⟩
  · simp [Value.cells] at hcs
    obtain ⟨rfl, rfl, rfl⟩ := hcs
    exact ⟨[], rfl, fun h => absurd h (by omega)⟩
  · simp [Value.cells] at hcs
    obtain ⟨rfl, rfl, rfl⟩ := hcs
    have hlm : len ≤ m := by rw [hm]; split <;> omega
    obtain ⟨hxd, _⟩ := Prod.mk.inj hx
    have each : ∀ i, ∃ o : OpM, i < len → OpAt W W.heap.size x i o := by
      intro i
      by_cases hi : i < len
      · obtain ⟨cs, h7, htr⟩ := heach i (by omega)
        have hblk := World.cells?_block h7 (by rw [hc]; omega)
        rw [hc] at h7
        obtain ⟨_, hlen, hcell⟩ := World.cells?_some h7
        obtain ⟨y0, y1, y2, y3, y4, y5, y6, k, hD, _, t0, t1, t2, t3, t4, t5, t6⟩ := trod_struct7 he htr
        obtain ⟨a0, a1, a2, a3, a4, a5, a6⟩ := o0
        obtain ⟨b0, b1, b2, b3, b4, b5, b6⟩ := c0
        rw [a0, b0] at t0
        rw [a1, b1] at t1
        rw [a2, b2] at t2
        rw [a3, b3] at t3
        rw [a4, b4] at t4
        rw [a5, b5] at t5
        rw [a6, b6] at t6
        match cs, hlen with
        | [v0, v1, v2, v3, v4, v5, v6], _ =>
          obtain ⟨z0, e0, _, w0⟩ := DataW.trod_int h0 t0
          obtain ⟨z1, e1, _, w1⟩ := DataW.trod_int h1 t1
          obtain ⟨z2, e2, _, w2⟩ := DataW.trod_int h2 t2
          obtain ⟨z3, e3, _⟩ := DataW.trod_bool h3 t3
          obtain ⟨z5, e5, _, w5⟩ := DataW.trod_int h5 t5
          obtain ⟨z6, e6, _, w6⟩ := DataW.trod_int h6 t6
          simp at e0 e1 e2 e3 e5 e6
          subst e0 e1 e2 e3 e5 e6
          have t4' : DataW.trod enc P W base spare held k f4.type [v4] = some y4 := by simpa using t4
          obtain ⟨A4, n4, c4, rfl⟩ : ∃ A n c, v4 = .slice A n c := by
            rcases Go.Deep.open_slice h4 t4' with ⟨h, _⟩ | ⟨x', l', c', _, _, _, _, h, _⟩
            · simp at h; exact ⟨_, _, _, h⟩
            · simp at h; exact ⟨_, _, _, h⟩
          have ht4 : DataW.Trod enc P W base spare held f4.type (.slice A4 n4 c4) y4.1 y4.2 := ⟨k, by simpa [Value.cells] using t4'⟩
          obtain ⟨zs, zl, hr, wz, hle, _, hnn⟩ := reads_ints h4 h4e h4c ht4
          have hbl : (bytesOf zs).length = n4 := by simp [bytesOf, zl]
          have hbig : n4 ≤ 140737488351232 := by
            rcases Go.Deep.open_slice h4 t4' with ⟨h, _⟩ | ⟨x', l', c', m', _, D', _, h, _, hl', _, hm', hx', _⟩
            · simp at h; omega
            · simp at h
              obtain ⟨rfl, rfl, rfl⟩ := h
              have hy4 : y4.1 = .slice ((List.range n4).map D') ((List.range (m' - n4)).map fun j => D' (n4 + j)) := (Prod.mk.inj hx').1
              have hmem : D i ∈ (List.range len).map D := List.mem_map.2 ⟨i, List.mem_range.2 hi, rfl⟩
              have hDi : D i = .agg [y0.1, y1.1, y2.1, y3.1, y4.1, y5.1, y6.1] := (Prod.mk.inj hD).1
              have hw : (((List.range n4).map D').length + ((List.range (m' - n4)).map fun j => D' (n4 + j)).length) * P.bytesOf te ∈ DataW.weightsEach P ts ds := by
                refine DataW.weights_mem_each ht hd _ ?_
                rw [hxd]
                simp only [DataW.weights, hu, List.mem_cons, List.mem_append]
                refine .inr (.inl (weightsAll_mem hmem _ ?_))
                rw [hDi]
                simp only [DataW.weights, he]
                refine DataW.weights_mem_each (j := 4) (t := f4.type) rfl (d := y4.1) rfl _ ?_
                rw [hy4]
                simp [DataW.weights, h4]
              have := List.all_eq_true.1 hsz _ hw
              rw [h4b] at this
              simp [reachBytes] at this
              omega
          refine ⟨⟨z0, z1, z2, z3, bytesOf zs, z5, z6⟩, fun _ => ⟨⟨?_, wf_u32 w6, ?_⟩, by simp only [hbl]; exact hbig, A4, c4, ?_, ?_, ?_, ?_⟩⟩
          · have := wf_i64 w5; exact ⟨this.1, by simp only; omega⟩
          · have := wf_i64 w1; exact ⟨this.1, by simp only; omega⟩
          · intro j u hu'
            have hj : j < 7 := (Array.getElem?_eq_some_iff.1 hu').1
            rw [← add_of_add, hcell j hj]
            simp only [hbl] at hu'
            simpa [opCells] using hu'
          · simp only [hbl]
            exact reads_bytes hr wz
          · simp only [hbl]; exact hle
          · intro hA
            simp only [hbl]
            have := hnn hA
            omega
      · exact ⟨⟨0, 0, 0, false, [], 0, 0⟩, fun h => absurd h hi⟩
    refine ⟨(List.range len).map (fun i => Classical.choose (each i)), by simp, fun hn => ⟨x, rfl, ?_, ?_⟩⟩
    · obtain ⟨cs, h7, _⟩ := heach 0 (by omega)
      have := World.cells?_block h7 (by rw [hc]; omega)
      rwa [block_of_add] at this
    · intro i o ho
      have hi : i < len := by
        have := (List.getElem?_eq_some_iff.1 ho).1
        simpa using this
      rw [List.getElem?_map, List.getElem?_range hi] at ho
      simp only [Option.map_some, Option.some.injEq] at ho
      rw [← ho]
      exact Classical.choose_spec (each i) hi
end
end Go.Proofs.YtfoldlbnkfnenaaGreat
