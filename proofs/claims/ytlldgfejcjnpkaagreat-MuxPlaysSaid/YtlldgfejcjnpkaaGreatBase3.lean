/- The base of the laws, part 3: contracts and plain lemmas, no statement. -/
import Derived.Test.YtlldgfejcjnpkaaGreatBase1
import Derived.Test.YtlldgfejcjnpkaaGreatProg
set_option linter.unusedVariables false
/- crc's functions by their contracts. -/
namespace Go.Proofs.YtlldgfejcjnpkaaGreat
open Go.RowKit
set_option maxHeartbeats 4000000
set_option maxRecDepth 100000

/-- The cells of bytes. -/
def u8c (l : List UInt8) : List Value := l.map fun c => .int .u8 (c.toNat : Int)
/-- A word as a value. -/
abbrev u32v (s : BitVec 32) : Value := .int .u32 (s.toNat : Int)
theorem xor32 (x y : Int) : bits .xor .u32 x y = ((BitVec.ofInt 32 x ^^^ BitVec.ofInt 32 y).toNat : Int) := by
  unfold bits
  have h := (BitVec.ofInt 32 x ^^^ BitVec.ofInt 32 y).isLt
  exact IntWalk.u32_in ((BitVec.ofInt 32 x ^^^ BitVec.ofInt 32 y).toNat : Int) ⟨by omega, by omega⟩
theorem ofInt_nat (s : BitVec 32) : BitVec.ofInt 32 (s.toNat : Int) = s := by simp
theorem shl1 (r : BitVec 32) : BitVec.ofInt 32 ((r.toNat : Int) * 2 % 4294967296) = r <<< 1 := by
  apply BitVec.eq_of_toNat_eq
  simp [BitVec.toNat_shiftLeft, Nat.shiftLeft_eq]
  omega
theorem byteUp (c : UInt8) : BitVec.ofInt 32 ((c.toNat : Int) % 4294967296 * 16777216 % 4294967296) = c.toBitVec.setWidth 32 <<< 24 := by
  apply BitVec.eq_of_toNat_eq
  have h := c.toNat_lt
  simp [BitVec.toNat_shiftLeft, Nat.shiftLeft_eq]
  omega
theorem msb32 (r : BitVec 32) : r.msb = ((r.toNat : Int) / 2147483648 != 0) := by
  rw [BitVec.msb_eq_decide]
  have := r.isLt
  by_cases h : 2147483648 ≤ r.toNat
  · have e : ((r.toNat : Int) / 2147483648 != 0) = true := by simp; omega
    rw [e]; simpa using h
  · have e : ((r.toNat : Int) / 2147483648 != 0) = false := by simp; omega
    rw [e]; simpa using h
theorem crcStep_any (s : BitVec 32) (c : UInt8) (w : World) :
    Calls Tryz.prog 205 #[u32v s, .int .u8 (c.toNat : Int)] w fun e w' => e = .returned (u32v (crcByte s c)) ∧ w' = w := by
  go_enter Tryz.func205, Tryz.ntmps205
  go_wp2_with fail
  go_loopg [0, 10] 8 (fun q v0 v10 wr => ∃ (k : Nat), k + q = 8 ∧ v10 = .int .i64 k ∧ v0 = u32v (crcZn k (s ^^^ (c.toBitVec.setWidth 32 <<< 24))) ∧ wr = w)
  case atStart =>
    refine ⟨0, rfl, rfl, ?_, rfl⟩
    rw [xor32, ofInt_nat, byteUp]
    rfl
  case round =>
    obtain ⟨k, hq, rfl, rfl, rfl⟩ := hrel
    have e1 : crcZn (k + 1) (s ^^^ (c.toBitVec.setWidth 32 <<< 24)) = crcZ (crcZn k (s ^^^ (c.toBitVec.setWidth 32 <<< 24))) := by rw [crcZn_succ]; rfl
    have hm := msb32 (crcZn k (s ^^^ (c.toBitVec.setWidth 32 <<< 24)))
    by_cases hk : k < 8
    · go_wp2_with fail
      · go_roundg (8 - (k + 1))
        case measure => omega
        case rel =>
          rename_i h
          rw [h] at hm
          refine ⟨k + 1, by omega, by go_num, ?_, rfl⟩
          rw [e1, xor32, shl1]
          unfold crcZ
          rw [hm]
          rfl
      · go_roundg (8 - (k + 1))
        case measure => omega
        case rel =>
          rename_i h
          rw [h] at hm
          refine ⟨k + 1, by omega, by go_num, ?_, rfl⟩
          rw [e1]
          unfold crcZ
          rw [hm]
          have e2 := congrArg BitVec.toNat (shl1 (crcZn k (s ^^^ (c.toBitVec.setWidth 32 <<< 24))))
          simp at e2
          simp [← e2]
          omega
    · have hk8 : k = 8 := by omega
      subst hk8
      go_wp2_with fail
      go_ret
      exact ⟨rfl, rfl⟩
theorem crcOf_take {l : List UInt8} {k : Nat} (h : k < l.length) : crcOf 0#32 (l.take (k + 1)) = crcByte (crcOf 0#32 (l.take k)) l[k] := by
  unfold crcOf
  rw [List.take_succ_eq_append_getElem h, List.foldl_append]
  rfl
/-- The check over bytes. -/
theorem crcBits_any (A : Option Addr) (n c : Nat) (l : List UInt8) (B : Nat) (w : World) (hr : Reads w B 1 A n (u8c l)) (hn : n < 1073741824) :
    Calls Tryz.prog 175 #[.slice A n c] w fun e w' => e = .returned (u32v (crcOf 0#32 l)) ∧ w' = w := by
  have hl : l.length = n := by have := hr.1; simpa [u8c] using this
  have Hl := Lib.hid hl
  clear hl
  go_enter Tryz.func175, Tryz.ntmps175
  go_wp2_with fail
  go_loopg [3, 5, 8] n (fun q v3 _v5 v8 wr => ∃ (k : Nat), k + q = n ∧ v8 = .int .i64 k ∧ v3 = u32v (crcOf 0#32 (l.take k)) ∧ wr = w)
  case atStart => exact ⟨0, by omega, rfl, rfl, rfl⟩
  case round =>
    obtain ⟨k, hq, rfl, rfl, rfl⟩ := hrel
    by_cases hk : k < n
    · obtain ⟨ad, u, rfl, hb, hu, hcell⟩ := hr.at_ hk
      have hkl : k < l.length := by rw [Hl.out]; exact hk
      obtain rfl : u = .int .u8 (l[k].toNat : Int) := by
        simp [u8c, hkl] at hu
        exact hu.symm
      go_wp2_with (go_at_call 205; refine (crcStep_any _ _ _).mono ?_; rintro e w' ⟨rfl, rfl⟩)
      go_roundg (n - (k + 1))
      case measure => omega
      case rel =>
        refine ⟨k + 1, by omega, by go_num, ?_, rfl⟩
        rw [crcOf_take hkl]
    · obtain rfl : k = n := by omega
      go_wp2_with fail
      go_ret
      refine ⟨?_, rfl⟩
      have hnl := Hl.out
      rw [List.take_of_length_le (by omega)]
      rfl
end Go.Proofs.YtlldgfejcjnpkaaGreat
/- Slices of bytes: Clone, a word put at the end, a word read. -/
namespace Go.Proofs.YtlldgfejcjnpkaaGreat
open Go.RowKit
set_option maxHeartbeats 4000000
set_option maxRecDepth 100000

theorem u8c_length (l : List UInt8) : (u8c l).length = l.length := by simp [u8c]
theorem u8c_one (l : List UInt8) : ∀ u ∈ u8c l, u.oneCell' = true := by
  intro u hu
  obtain ⟨c, _, rfl⟩ := List.mem_map.1 hu
  rfl
theorem u8c_append (l m : List UInt8) : u8c (l ++ m) = u8c l ++ u8c m := by simp [u8c]
theorem u8c_get (l : List UInt8) (k : Nat) : (u8c l)[k]? = l[k]?.map fun c => .int .u8 (c.toNat : Int) := by simp [u8c]
theorem u8c_inj {l m : List UInt8} (h : u8c l = u8c m) : l = m := by
  induction l generalizing m with
  | nil =>
    cases m with
    | nil => rfl
    | cons => cases h
  | cons a l ih =>
    cases m with
    | nil => cases h
    | cons b m =>
      simp only [u8c, List.map_cons, List.cons.injEq] at h
      obtain ⟨h1, h2⟩ := h
      have : a.toNat = b.toNat := by injection h1 with _ h; omega
      rw [ih h2, UInt8.toNat_inj.1 this]
theorem byte_info : (Tryz.prog.info? 5).map (fun i => (i.zero, i.size, i.bytes)) = some (some (.int .u8 0), 1, 1) := by kernel_rfl
/-- slices.Clone of bytes: nil stays nil. -/
theorem cloneByte_any (A : Option Addr) (n c : Nat) (l : List UInt8) (B : Nat) (w : World) (hA : A = none → n = 0) (hr : Reads w B 1 A n (u8c l)) (hB : B ≤ w.heap.size) (hn : n ≤ 1000000) :
    Calls Tryz.prog 53 #[.slice A n c] w fun e w' => ∃ v, e = .returned v ∧ w'.ownsRow w.heap.size 5 1 v n (u8c l) ∧ (A = none → v = .slice none 0 0) ∧ (A ≠ none → ∃ g, v.ownBlock = some g) ∧ Below w.heap.size w w' := by
  obtain ⟨i0, hi0, hz0, hz1, hz2⟩ := info_parts byte_info
  cases A with
  | none =>
    obtain rfl := hA rfl
    have hx : u8c l = [] := List.eq_nil_of_length_eq_zero (by simpa using hr.1)
    have he := fun (W : World) (a : Option Addr) (n c n' c' : Nat) => Lib.run_eql_slice_nil (P := Tryz.prog) W 22 5 a n c n' c' Tryz.underlying22
    go_enter Tryz.func53, Tryz.ntmps53
    go_wp2_with fail
    go_ret
    exact ⟨_, rfl, World.ownsRow_nil _ _ _ _, rfl, Below.refl _ _⟩
  | some ad =>
    have he := fun (W : World) (a : Option Addr) (n c n' c' : Nat) => Lib.run_eql_slice_nil (P := Tryz.prog) W 22 5 a n c n' c' Tryz.underlying22
    go_enter Tryz.func53, Tryz.ntmps53
    go_wp2_with (at_builtin; refine wpList_append_any _ rfl (.tmp 5) (.tmp 6) _ rfl w.heap.size 5 i0 _ 1 1 Tryz.underlying22 hi0 hz0 hz1 hz2 rfl (by omega) (.slice (some ⟨w.heap.size, 0, none⟩) 0 0) 0 [] rfl (World.ownsRow_made w #[] 0 (Nat.le_refl _) (by unfold maxLen; omega) rfl) B (some ad) n c (u8c l) rfl (hr.alloc hB _) (u8c_one l) (by unfold maxLen; omega) (by omega) (by simp) ?_; intro v1 w1 hown1 hg1 hat1)
    go_ret
    refine ⟨_, rfl, by simpa using hown1, fun h => (by cases h), fun _ => ?_, ((Below.refl _ _).alloc (Nat.le_refl _) _).grown hg1 (by simp) (fun k hk => by simp [Value.ownBlock] at hk; omega)⟩
    rcases hat1 with h | h
    · exact ⟨_, h⟩
    · exact ⟨_, h⟩
/-- The four bytes of a word, as the program cuts them. -/
theorem word_cells (s : BitVec 32) : #[Value.int .u8 ((s.toNat : Int) / 16777216), .int .u8 ((s.toNat : Int) / 65536 % 256), .int .u8 ((s.toNat : Int) / 256 % 256), .int .u8 ((s.toNat : Int) % 256)] = (u8c (wordOf s)).toArray := by
  have h24 : ((s >>> 24).setWidth 8).toNat = s.toNat / 16777216 := by
    have := s.isLt
    simp [Nat.shiftRight_eq_div_pow]
    omega
  have h16 : ((s >>> 16).setWidth 8).toNat = s.toNat / 65536 % 256 := by simp [Nat.shiftRight_eq_div_pow]
  have h8 : ((s >>> 8).setWidth 8).toNat = s.toNat / 256 % 256 := by simp [Nat.shiftRight_eq_div_pow]
  have h0 : (s.setWidth 8).toNat = s.toNat % 256 := by simp
  simp only [u8c, wordOf, List.map_cons, List.map_nil, UInt8.toNat, h24, h16, h8, h0]
  simp
theorem word_reads {w : World} {g : Nat} {t : TypeId} {s : BitVec 32} (h : Blk w g t #[Value.int .u8 ((s.toNat : Int) / 16777216), .int .u8 ((s.toNat : Int) / 65536 % 256), .int .u8 ((s.toNat : Int) / 256 % 256), .int .u8 ((s.toNat : Int) % 256)]) :
    Reads w w.heap.size 1 (some ⟨g, 0, none⟩) 4 (u8c (wordOf s)) := by
  have hr := Reads.of_blk h (B := w.heap.size) (size := 1) (n := 4) h.lt rfl
  rw [word_cells] at hr
  exact hr
/-- A word put at the end of a row of the caller's own. -/
theorem unitPut_any (v : Value) (n : Nat) (l : List UInt8) (s : BitVec 32) (base : Nat) (w : World) (hown : w.ownsRow base 5 1 v n (u8c l)) (hb : base ≤ w.heap.size) (hn : n ≤ 1000000) :
    Calls Tryz.prog 223 #[v, u32v s] w fun e w' => ∃ v', e = .returned v' ∧ w'.ownsRow base 5 1 v' (n + 4) (u8c (l ++ wordOf s)) ∧ Below base w w' := by
  obtain ⟨i0, hi0, hz0, hz1, hz2⟩ := info_parts byte_info
  have hlt := hown.lt
  go_enter Tryz.func223, Tryz.ntmps223
  go_wp2_with (at_builtin; refine wpList_append_any _ rfl (.tmp 5) (.tmp 17) _ rfl base 5 i0 _ 1 1 Tryz.underlying22 hi0 hz0 hz1 hz2 rfl (by omega) v n (u8c l) rfl (hown.alloc _) (w.heap.size + 1) (some ⟨w.heap.size, 0, none⟩) 4 4 (u8c (wordOf s)) rfl (by simpa using word_reads (Blk.new w 5 _)) (u8c_one _) (by unfold maxLen; omega) (by omega) (by simp; omega) ?_; intro v1 w1 hown1 hg1 hat1)
  go_ret
  refine ⟨_, rfl, ?_, ?_⟩
  · rw [u8c_append]; exact hown1
  · refine ((Below.refl _ _).alloc hb _).grown hg1 (by simp; omega) ?_
    intro k hk
    exact (hlt k hk).1
theorem paramWord_any (v : Value) (n : Nat) (l : List UInt8) (s : BitVec 32) (base : Nat) (w : World) (hown : w.ownsRow base 5 1 v n (u8c l)) (hb : base ≤ w.heap.size) (hn : n ≤ 1000000) :
    Calls Tryz.prog 222 #[v, u32v s] w fun e w' => ∃ v', e = .returned v' ∧ w'.ownsRow base 5 1 v' (n + 4) (u8c (l ++ wordOf s)) ∧ Below base w w' := by
  obtain ⟨i0, hi0, hz0, hz1, hz2⟩ := info_parts byte_info
  have hlt := hown.lt
  go_enter Tryz.func222, Tryz.ntmps222
  go_wp2_with (at_builtin; refine wpList_append_any _ rfl (.tmp 5) (.tmp 17) _ rfl base 5 i0 _ 1 1 Tryz.underlying22 hi0 hz0 hz1 hz2 rfl (by omega) v n (u8c l) rfl (hown.alloc _) (w.heap.size + 1) (some ⟨w.heap.size, 0, none⟩) 4 4 (u8c (wordOf s)) rfl (by simpa using word_reads (Blk.new w 5 _)) (u8c_one _) (by unfold maxLen; omega) (by omega) (by simp; omega) ?_; intro v1 w1 hown1 hg1 hat1)
  go_ret
  refine ⟨_, rfl, ?_, ?_⟩
  · rw [u8c_append]; exact hown1
  · refine ((Below.refl _ _).alloc hb _).grown hg1 (by simp; omega) ?_
    intro k hk
    exact (hlt k hk).1
theorem or32 (x y : Int) : bits .or .u32 x y = ((BitVec.ofInt 32 x ||| BitVec.ofInt 32 y).toNat : Int) := by
  unfold bits
  have h := (BitVec.ofInt 32 x ||| BitVec.ofInt 32 y).isLt
  exact IntWalk.u32_in ((BitVec.ofInt 32 x ||| BitVec.ofInt 32 y).toNat : Int) ⟨by omega, by omega⟩
theorem ofWord_or (a b c d : UInt8) : (((a.toBitVec.setWidth 32 <<< 24) ||| (b.toBitVec.setWidth 32 <<< 16)) ||| (c.toBitVec.setWidth 32 <<< 8)) ||| d.toBitVec.setWidth 32 = ofWord a b c d := by
  have far : ∀ (x : UInt8) (i : Nat), 8 ≤ i → x.toBitVec.getLsbD i = false := fun x i h => BitVec.getLsbD_of_ge _ _ h
  apply BitVec.eq_of_getLsbD_eq
  intro i hi
  unfold ofWord
  simp only [BitVec.getLsbD_xor, BitVec.getLsbD_or, BitVec.getLsbD_shiftLeft, BitVec.getLsbD_setWidth]
  by_cases h8 : i < 8
  · simp [h8, hi, show i < 16 by omega, show i < 24 by omega]
  · have fd := far d i (by omega)
    by_cases h16 : i < 16
    · simp [h8, hi, h16, fd, show i < 24 by omega]
    · have fc := far c (i - 8) (by omega)
      by_cases h24 : i < 24
      · simp [h8, hi, h16, h24, fd, fc]
      · have fb := far b (i - 16) (by omega)
        simp [h8, hi, h16, h24, fd, fc, fb]
theorem up16 (c : UInt8) : BitVec.ofInt 32 ((c.toNat : Int) % 4294967296 * 65536 % 4294967296) = c.toBitVec.setWidth 32 <<< 16 := by
  apply BitVec.eq_of_toNat_eq
  have h := c.toNat_lt
  simp [BitVec.toNat_shiftLeft, Nat.shiftLeft_eq]
  omega
theorem up8 (c : UInt8) : BitVec.ofInt 32 ((c.toNat : Int) % 4294967296 * 256 % 4294967296) = c.toBitVec.setWidth 32 <<< 8 := by
  apply BitVec.eq_of_toNat_eq
  have h := c.toNat_lt
  simp [BitVec.toNat_shiftLeft, Nat.shiftLeft_eq]
  omega
theorem up0 (c : UInt8) : BitVec.ofInt 32 ((c.toNat : Int) % 4294967296) = c.toBitVec.setWidth 32 := by
  apply BitVec.eq_of_toNat_eq
  have h := c.toNat_lt
  simp
  omega
theorem get_word (b0 b1 b2 b3 : UInt8) : bits .or .u32 (bits .or .u32 (bits .or .u32 ((b0.toNat : Int) % 4294967296 * 16777216 % 4294967296) ((b1.toNat : Int) % 4294967296 * 65536 % 4294967296)) ((b2.toNat : Int) % 4294967296 * 256 % 4294967296)) ((b3.toNat : Int) % 4294967296)
    = ((ofWord b0 b1 b2 b3).toNat : Int) := by
  rw [or32, or32, or32, ofInt_nat, ofInt_nat, byteUp, up16, up8, up0, ofWord_or]
/-- A word read. -/
theorem unitGet_any (ad : Addr) (n c : Nat) (b0 b1 b2 b3 : UInt8) (w : World) (hn : 4 ≤ n) (h0 : w.cell? (ad.add 0) = some (.int .u8 (b0.toNat : Int))) (h1 : w.cell? (ad.add 1) = some (.int .u8 (b1.toNat : Int)))
    (h2 : w.cell? (ad.add 2) = some (.int .u8 (b2.toNat : Int))) (h3 : w.cell? (ad.add 3) = some (.int .u8 (b3.toNat : Int))) :
    Calls Tryz.prog 133 #[.slice (some ad) n c] w fun e w' => e = .returned (u32v (ofWord b0 b1 b2 b3)) ∧ ∃ k, w' = w.drewN k := by
  have g0 : (0 : Int) < n := by omega
  have g1 : (1 : Int) < n := by omega
  have g2 : (2 : Int) < n := by omega
  have g3 : (3 : Int) < n := by omega
  rw [show ad.add 0 = ad from rfl] at h0
  rw [show ad.add 1 = ⟨ad.block, ad.off + 1, none⟩ from rfl] at h1
  rw [show ad.add 2 = ⟨ad.block, ad.off + 2, none⟩ from rfl] at h2
  rw [show ad.add 3 = ⟨ad.block, ad.off + 3, none⟩ from rfl] at h3
  go_enter Tryz.func133, Tryz.ntmps133
  go_wp2_with fail
  go_big_quiet (fail)
  go_wp2_with fail
  go_ret
  refine ⟨?_, _, rfl⟩
  exact congrArg (fun x => Ending.returned (Value.int .u32 x)) (get_word b0 b1 b2 b3)
theorem paramNumber_any (ad : Addr) (n c : Nat) (b0 b1 b2 b3 : UInt8) (w : World) (hn : 4 ≤ n) (h0 : w.cell? (ad.add 0) = some (.int .u8 (b0.toNat : Int))) (h1 : w.cell? (ad.add 1) = some (.int .u8 (b1.toNat : Int)))
    (h2 : w.cell? (ad.add 2) = some (.int .u8 (b2.toNat : Int))) (h3 : w.cell? (ad.add 3) = some (.int .u8 (b3.toNat : Int))) :
    Calls Tryz.prog 209 #[.slice (some ad) n c] w fun e w' => e = .returned (u32v (ofWord b0 b1 b2 b3)) ∧ ∃ k, w' = w.drewN k := by
  have g0 : (0 : Int) < n := by omega
  have g1 : (1 : Int) < n := by omega
  have g2 : (2 : Int) < n := by omega
  have g3 : (3 : Int) < n := by omega
  rw [show ad.add 0 = ad from rfl] at h0
  rw [show ad.add 1 = ⟨ad.block, ad.off + 1, none⟩ from rfl] at h1
  rw [show ad.add 2 = ⟨ad.block, ad.off + 2, none⟩ from rfl] at h2
  rw [show ad.add 3 = ⟨ad.block, ad.off + 3, none⟩ from rfl] at h3
  go_enter Tryz.func209, Tryz.ntmps209
  go_wp2_with fail
  go_big_quiet (fail)
  go_wp2_with fail
  go_ret
  refine ⟨?_, _, rfl⟩
  exact congrArg (fun x => Ending.returned (Value.int .u32 x)) (get_word b0 b1 b2 b3)
/-- crc.Seal. -/
theorem crcSeal_any (A : Option Addr) (n c : Nat) (l : List UInt8) (B : Nat) (w : World) (hA : A = none → n = 0) (hr : Reads w B 1 A n (u8c l)) (hB : B ≤ w.heap.size) (hn : n ≤ 100000) :
    Calls Tryz.prog 224 #[.slice A n c] w fun e w' => ∃ v, e = .returned v ∧ w'.ownsRow w.heap.size 5 1 v (n + 4) (u8c (sealM l)) ∧ Below w.heap.size w w' := by
  obtain ⟨i0, hi0, hz0, hz1, hz2⟩ := info_parts byte_info
  go_enter Tryz.func224, Tryz.ntmps224
  go_wp2_with fail
  refine (crcBits_any A n c l B w hr (by omega)).mono ?_
  rintro e w' ⟨rfl, rfl⟩
  go_wp2_with fail
  refine (cloneByte_any A n c l B w' hA hr hB (by omega)).mono ?_
  rintro e w1 ⟨v1, rfl, hown1, _, _, hb1⟩
  have hlt := hown1.lt
  have hs1 := hb1.size
  go_wp2_with (at_builtin; refine wpList_append_any _ rfl (.tmp 7) (.tmp 19) _ rfl w'.heap.size 5 i0 _ 1 1 Tryz.underlying22 hi0 hz0 hz1 hz2 rfl (by omega) v1 n (u8c l) rfl (hown1.alloc _) (w1.heap.size + 1) (some ⟨w1.heap.size, 0, none⟩) 4 4 (u8c (wordOf (crcOf 0#32 l))) rfl (by simpa using word_reads (Blk.new w1 5 _)) (u8c_one _) (by unfold maxLen; omega) (by omega) (by simp; omega) ?_; intro v2 w2 hown2 hg2 hat2)
  go_ret
  refine ⟨_, rfl, ?_, ?_⟩
  · unfold sealM; rw [u8c_append]; exact hown2
  · exact (hb1.alloc (by omega) _).grown hg2 (by simp; omega) (fun k hk => (hlt k hk).1)
/-- crc.Valid. -/
theorem crcValid_any (A : Option Addr) (n c : Nat) (l : List UInt8) (B : Nat) (w : World) (hr : Reads w B 1 A n (u8c l)) (hn4 : 4 ≤ n) (hn : n ≤ 100000) :
    Calls Tryz.prog 132 #[.slice A n c] w fun e w' => e = .returned (.bool (crcOf 0#32 l == 0#32)) ∧ ∃ k, w' = w.drewN k := by
  go_enter Tryz.func132, Tryz.ntmps132
  go_wp2_with fail
  refine (crcBits_any A n c l B w hr (by omega)).mono ?_
  rintro e w' ⟨rfl, rfl⟩
  go_wp2_with fail
  go_ret
  refine ⟨?_, 0, rfl⟩
  have : (((crcOf 0#32 l).toNat : Int) == 0) = (crcOf 0#32 l == 0#32) := by
    rw [Bool.eq_iff_iff]
    simp only [beq_iff_eq]
    constructor
    · intro h
      apply BitVec.eq_of_toNat_eq
      simp
      omega
    · intro h
      rw [h]
      rfl
  exact congrArg (fun x => Ending.returned (Value.bool x)) this
end Go.Proofs.YtlldgfejcjnpkaaGreat
/- The reference's remainder (parapetref01), plain. -/
namespace Go.Proofs.YtlldgfejcjnpkaaGreat
open Go.RowKit

def degTo : Nat → Int
  | 0 => -1
  | k + 1 => if (4812730177 : Nat) / 2 ^ k % 2 = 1 then (k : Int) else degTo k
theorem degTo_64 : degTo 64 = 32 := by decide +kernel
theorem degTo_succ (k : Nat) : degTo (k + 1) = if (4812730177 : Nat) / 2 ^ k % 2 = 1 then (k : Int) else degTo k := rfl
theorem xor64 (x y : Int) : bits .xor .u64 x y = ((BitVec.ofInt 64 x ^^^ BitVec.ofInt 64 y).toNat : Int) := by
  unfold bits
  have h := (BitVec.ofInt 64 x ^^^ BitVec.ofInt 64 y).isLt
  exact IntWalk.u64_in ((BitVec.ofInt 64 x ^^^ BitVec.ofInt 64 y).toNat : Int) ⟨by omega, by omega⟩
theorem shl64 (s : BitVec 32) : s.setWidth 64 <<< 1 = (s <<< 1).setWidth 64 ^^^ (if s.msb then 0x100000000#64 else 0#64) := by
  have e : (0x100000000#64) = BitVec.twoPow 64 32 := by decide
  have hm : s.msb = s.getLsbD 31 := by rw [BitVec.msb_eq_getLsbD_last]
  apply BitVec.eq_of_getLsbD_eq
  intro i hi
  rw [hm, e]
  have hx : (if s.getLsbD 31 = true then BitVec.twoPow 64 32 else 0#64).getLsbD i = (s.getLsbD 31 && decide (32 = i)) := by
    cases s.getLsbD 31 with
    | true => simp only [if_true, BitVec.getLsbD_twoPow]; simp
    | false => simp
  simp only [BitVec.getLsbD_xor, hx, BitVec.getLsbD_shiftLeft, BitVec.getLsbD_setWidth]
  by_cases h0 : i < 1
  · have : i = 0 := by omega
    subst this
    simp
  · by_cases h32 : i = 32
    · subst h32
      simp
    · by_cases h31 : i < 32
      · have n32 : ¬ 32 = i := by omega
        have l64 : i - 1 < 64 := by omega
        simp only [hi, h0, h31, n32, l64, decide_true, decide_false, Bool.not_false, Bool.true_and, Bool.and_false, Bool.xor_false]
      · have n32 : ¬ 32 = i := by omega
        have l64 : i - 1 < 64 := by omega
        have g := BitVec.getLsbD_of_ge s (i - 1) (by omega)
        simp only [hi, h0, h31, n32, g, decide_true, decide_false, Bool.not_false, Bool.true_and, Bool.and_false, Bool.false_and, Bool.xor_false]
/-- A remainder's step in 64 bits. -/
theorem rem_step (s : BitVec 32) (b : Bool) : ((s.setWidth 64 <<< 1) ^^^ (if b then 1#64 else 0#64)) ^^^ (if s.msb then 0x11edc6f41#64 else 0#64) = (crcZ s ^^^ bit0 b).setWidth 64 := by
  have e1 : (0x11edc6f41#64) = 0x100000000#64 ^^^ (0x1edc6f41#32).setWidth 64 := by decide
  have e2 : (1#64) = (1#32).setWidth 64 := by decide
  have e3 : (0#64) = (0#32).setWidth 64 := by decide
  have lc : ∀ x y z : BitVec 64, x ^^^ (y ^^^ z) = y ^^^ (x ^^^ z) := fun x y z => by rw [← BitVec.xor_assoc, BitVec.xor_comm x y, BitVec.xor_assoc]
  have cancel : ∀ x y : BitVec 64, x ^^^ (x ^^^ y) = y := fun x y => by rw [← BitVec.xor_assoc, BitVec.xor_self, BitVec.zero_xor]
  unfold crcZ bit0
  rw [shl64]
  cases b <;> cases s.msb <;> simp only [if_true, if_false, Bool.false_eq_true, BitVec.setWidth_xor, BitVec.xor_zero, e1, e2, BitVec.xor_assoc]
  · simp only [cancel]
  · rw [lc ((1#32).setWidth 64), cancel, BitVec.xor_comm ((1#32).setWidth 64)]
theorem up64 (s : BitVec 32) : BitVec.ofInt 64 (s.toNat : Int) = s.setWidth 64 := by
  apply BitVec.eq_of_toNat_eq
  have := s.isLt
  simp
theorem up64_2 (s : BitVec 32) : BitVec.ofInt 64 ((s.toNat : Int) * 2) = s.setWidth 64 <<< 1 := by
  apply BitVec.eq_of_toNat_eq
  have := s.isLt
  simp [BitVec.toNat_shiftLeft, Nat.shiftLeft_eq]
  omega
theorem down64 (s : BitVec 32) : (s.setWidth 64).toNat = s.toNat := by
  have := s.isLt
  simp
  omega
theorem bitsOf_get (c : UInt8) (j : Nat) (hj : j < 8) : (bitsOf c)[j]? = some (c.toBitVec.getLsbD (7 - j)) := by
  unfold bitsOf
  match j, hj with
  | 0, _ => rfl
  | 1, _ => rfl
  | 2, _ => rfl
  | 3, _ => rfl
  | 4, _ => rfl
  | 5, _ => rfl
  | 6, _ => rfl
  | 7, _ => rfl
theorem bitsOf_length (c : UInt8) : (bitsOf c).length = 8 := rfl
end Go.Proofs.YtlldgfejcjnpkaaGreat
/- The reference's remainder (parapetref01): Degree, Bits, Of at the generator. -/
namespace Go.Proofs.YtlldgfejcjnpkaaGreat
open Go.RowKit
set_option maxHeartbeats 4000000
set_option maxRecDepth 100000

theorem and1_64 (x : Int) (h0 : 0 ≤ x) (h1 : x < 18446744073709551616) : bits .and .u64 x 1 = x % 2 := bits_mask .u64 64 (by decide) (fun n a b => IntWalk.u64_in n ⟨a, by simp at b; omega⟩) 1 (by decide) x h0 h1
theorem and1_8 (x : Int) (h0 : 0 ≤ x) (h1 : x < 256) : bits .and .u8 x 1 = x % 2 := bits_mask .u8 8 (by decide) (fun n a b => IntWalk.u8_in n ⟨a, by simp at b; omega⟩) 1 (by decide) x h0 h1
theorem gen_bit (k : Nat) : (bits .and .u64 ((4812730177 : Int) / 2 ^ k) 1 != 0) = decide ((4812730177 : Nat) / 2 ^ k % 2 = 1) := by
  have e : (4812730177 : Int) / 2 ^ k = ((4812730177 / 2 ^ k : Nat) : Int) := by simp
  have hle : 4812730177 / 2 ^ k ≤ 4812730177 := Nat.div_le_self _ _
  rw [e]
  generalize 4812730177 / 2 ^ k = y at *
  rw [and1_64 _ (by omega) (by omega), Bool.eq_iff_iff]
  simp
  omega
theorem refDegree_any (w : World) : Calls Tryz.prog 206 #[.int .u64 4812730177] w fun e w' => e = .returned (.int .i64 32) ∧ w' = w := by
  go_enter Tryz.func206, Tryz.ntmps206
  go_wp2_with fail
  go_loopg [3, 4] 64 (fun q v3 v4 wr => ∃ (k : Nat), k + q = 64 ∧ v4 = .int .i64 k ∧ v3 = .int .i64 (degTo k) ∧ wr = w)
  case atStart => exact ⟨0, rfl, rfl, rfl, rfl⟩
  case round =>
    obtain ⟨k, hq, rfl, rfl, rfl⟩ := hrel
    have hs := degTo_succ k
    have hg := gen_bit k
    by_cases hk : k < 64
    · go_wp2_with fail
      · go_roundg (64 - (k + 1))
        case measure => omega
        case rel =>
          rename_i h
          refine ⟨k + 1, by omega, by go_num, ?_, rfl⟩
          rw [hs, if_pos h]
      · go_roundg (64 - (k + 1))
        case measure => omega
        case rel =>
          rename_i h
          refine ⟨k + 1, by omega, by go_num, ?_, rfl⟩
          rw [hs, if_neg h]
    · obtain rfl : k = 64 := by omega
      clear hs hg
      go_wp2_with fail
      go_ret
      exact ⟨by simp [degTo_64], rfl⟩
theorem ofInt_nat64 (s : BitVec 64) : BitVec.ofInt 64 (s.toNat : Int) = s := by simp
theorem msb64 (s : BitVec 32) : (bits .and .u64 ((s.toNat : Int) / 2147483648) 1 != 0) = s.msb := by
  have h := s.isLt
  rw [and1_64 _ (by omega) (by omega), msb32, Bool.eq_iff_iff]
  simp
  omega
theorem rem_nat (s : BitVec 32) (b : Bool) (x : BitVec 64) (h : ((s.setWidth 64 <<< 1) ^^^ (if b then 1#64 else 0#64)) ^^^ (if s.msb then 0x11edc6f41#64 else 0#64) = x) : ((crcZ s ^^^ bit0 b).toNat : Int) = (x.toNat : Int) := by
  rw [← h, rem_step, down64]
theorem rx_ff (s : BitVec 32) (h : s.msb = false) : (s.toNat : Int) * 2 = ((crcZ s ^^^ bit0 false).toNat : Int) := by
  rw [rem_nat s false (s.setWidth 64 <<< 1) (by rw [h]; simp), ← up64_2]
  have := s.isLt
  rw [BitVec.toNat_ofInt]
  omega
theorem rx_ft (s : BitVec 32) (h : s.msb = true) : bits .xor .u64 ((s.toNat : Int) * 2) 4812730177 = ((crcZ s ^^^ bit0 false).toNat : Int) := by
  rw [rem_nat s false (s.setWidth 64 <<< 1 ^^^ 0x11edc6f41#64) (by rw [h]; simp), xor64, up64_2]
  rfl
theorem rx_tf (s : BitVec 32) (h : s.msb = false) : bits .xor .u64 ((s.toNat : Int) * 2) 1 = ((crcZ s ^^^ bit0 true).toNat : Int) := by
  rw [rem_nat s true (s.setWidth 64 <<< 1 ^^^ 1#64) (by rw [h]; simp), xor64, up64_2]
  rfl
theorem rx_tt (s : BitVec 32) (h : s.msb = true) : bits .xor .u64 (bits .xor .u64 ((s.toNat : Int) * 2) 1) 4812730177 = ((crcZ s ^^^ bit0 true).toNat : Int) := by
  rw [rem_nat s true ((s.setWidth 64 <<< 1 ^^^ 1#64) ^^^ 0x11edc6f41#64) (by rw [h]; simp), xor64 ((s.toNat : Int) * 2), up64_2, xor64, ofInt_nat64]
  rfl
theorem crcDef_take {l : List Bool} {k : Nat} (h : k < l.length) : crcDef 0#32 (l.take (k + 1)) = crcZ (crcDef 0#32 (l.take k)) ^^^ bit0 l[k] := by
  unfold crcDef
  rw [List.take_succ_eq_append_getElem h, List.foldl_append]
  rfl
theorem refBits_any (A : Option Addr) (n c : Nat) (l : List Bool) (B : Nat) (w : World) (hr : Reads w B 1 A n (l.map Value.bool)) (hn : n < 1073741824) :
    Calls Tryz.prog 181 #[.slice A n c, .int .u64 4812730177] w fun e w' => e = .returned (.int .u64 ((crcDef 0#32 l).toNat : Int)) ∧ w' = w := by
  have hl : l.length = n := by have := hr.1; simpa using this
  have Hl := Lib.hid hl
  clear hl
  go_enter Tryz.func181, Tryz.ntmps181
  go_wp2_with fail
  refine (refDegree_any w).mono ?_
  rintro e w1 ⟨rfl, rfl⟩
  go_wp2_with fail
  go_loopg [6, 7, 8] n (fun q v6 v7 _v8 wr => ∃ (k : Nat), k + q = n ∧ v7 = .int .i64 k ∧ v6 = .int .u64 ((crcDef 0#32 (l.take k)).toNat : Int) ∧ wr = w1)
  case atStart => exact ⟨0, by omega, rfl, rfl, rfl⟩
  case round =>
    obtain ⟨k, hq, rfl, rfl, rfl⟩ := hrel
    by_cases hk : k < n
    · obtain ⟨ad, u, rfl, hb, hu, hcell⟩ := hr.at_ hk
      have hkl : k < l.length := by rw [Hl.out]; exact hk
      obtain rfl : u = .bool l[k] := by
        simp [hkl] at hu
        exact hu.symm
      have htk := crcDef_take hkl
      generalize crcDef 0#32 (l.take k) = s at *
      have hm := msb64 s
      generalize l[k] = bk at *
      cases bk
      all_goals go_wp2_with fail
      all_goals
        go_roundg (n - (k + 1))
        case measure => omega
        case rel =>
          rename_i h
          refine ⟨k + 1, by omega, by go_num, ?_, rfl⟩
          rw [htk]
          first | rw [← rx_ff _ h] | rw [← rx_ft _ h] | rw [← rx_tf _ h] | rw [← rx_tt _ h]
    · obtain rfl : k = n := by omega
      go_wp2_with fail
      go_ret
      refine ⟨?_, rfl⟩
      have hnl := Hl.out
      rw [List.take_of_length_le (by omega)]
      rfl
theorem bool_info : (Tryz.prog.info? 4).map (fun i => (i.zero, i.size, i.bytes)) = some (some (.bool false), 1, 1) := by kernel_rfl
theorem bool_one (l : List Bool) : ∀ u ∈ l.map Value.bool, u.oneCell' = true := by
  intro u hu
  obtain ⟨c, _, rfl⟩ := List.mem_map.1 hu
  rfl
theorem byte_bit (c : UInt8) (j : Nat) : (bits .and .u8 ((c.toNat : Int) / 2 ^ (7 - j)) 1 != 0) = c.toBitVec.getLsbD (7 - j) := by
  have e : (c.toNat : Int) / 2 ^ (7 - j) = ((c.toNat / 2 ^ (7 - j) : Nat) : Int) := by simp
  have hle : c.toNat / 2 ^ (7 - j) ≤ c.toNat := Nat.div_le_self _ _
  have hc := c.toNat_lt
  have hb : c.toBitVec.getLsbD (7 - j) = decide (c.toNat / 2 ^ (7 - j) % 2 = 1) := by
    rw [← BitVec.testBit_toNat, Nat.testBit_eq_decide_div_mod_eq]
    rfl
  rw [e, hb]
  generalize c.toNat / 2 ^ (7 - j) = y at *
  rw [and1_8 _ (by omega) (by omega), Bool.eq_iff_iff]
  simp
  omega
theorem flat_take {l : List UInt8} {k : Nat} (h : k < l.length) : (l.take (k + 1)).flatMap bitsOf = (l.take k).flatMap bitsOf ++ bitsOf l[k] := by
  rw [List.take_succ_eq_append_getElem h, List.flatMap_append]
  simp
theorem bits_take (c : UInt8) {j : Nat} (h : j < 8) : (bitsOf c).take (j + 1) = (bitsOf c).take j ++ [c.toBitVec.getLsbD (7 - j)] := by
  have hl : j < (bitsOf c).length := h
  have hg := bitsOf_get c j h
  rw [List.take_succ_eq_append_getElem hl]
  rw [List.getElem?_eq_getElem hl] at hg
  rw [Option.some.inj hg]
/-- make with room. -/
theorem run_room {t e : TypeId} {z : Value} (ht : (Tryz.prog).underlying t = some (.slice e)) (hinfo : ((Tryz.prog).info? e).map (fun i => (i.zero, i.size, i.bytes)) = some (some z, 1, 1)) (hz1 : z.cells = #[z]) (c : Nat) (hc : c ≤ 100000000) (w : World) :
    (Instr.makeSlice t (.int .i64 0) (.int .i64 (c : Int))).run Tryz.prog w = .ok (.slice (some ⟨w.heap.size, 0, none⟩) 0 c) (w.alloc (.cells (madeCells #[z] c) e)) := by
  obtain ⟨i, hi, hzz⟩ := Option.map_eq_some_iff.1 hinfo
  simp only [Prod.mk.injEq] at hzz
  obtain ⟨hz, hs, hb⟩ := hzz
  have hr := run_make (P := Tryz.prog) w t e i z ht hi hz .i64 .i64 0 c (Int.le_refl _) (by omega) (by rw [hb]; omega) (by omega)
  simp only [Int.toNat_natCast, hs, Nat.mul_one, hz1, Int.toNat_zero] at hr
  exact hr
theorem own_room (w : World) (z : Value) (e : TypeId) (c : Nat) (hc : c ≤ 100000000) : (w.alloc (.cells (madeCells #[z] c) e)).ownsRow w.heap.size e 1 (.slice (some ⟨w.heap.size, 0, none⟩) 0 c) 0 [] :=
  World.ownsRow_made w _ c (Nat.le_refl _) (by unfold maxLen; omega) (by simp [size_madeCells])
theorem refOf_any (A : Option Addr) (n c : Nat) (l : List UInt8) (B : Nat) (w : World) (hr : Reads w B 1 A n (u8c l)) (hB : B ≤ w.heap.size) (hn : n < 1000000) :
    Calls Tryz.prog 141 #[.slice A n c, .int .u64 4812730177] w fun e w' => e = .returned (.tuple #[.int .u64 ((crcDef 0#32 (l.flatMap bitsOf)).toNat : Int), .int .i64 0]) ∧ Below w.heap.size w w' := by
  have hl : l.length = n := by have := hr.1; simpa [u8c] using this
  have Hl := Lib.hid hl
  clear hl
  obtain ⟨i0, hi0, hz0, hz1, hz2⟩ := info_parts bool_info
  have hmk := fun w => run_room (t := 284) (z := .bool false) Tryz.underlying284 bool_info rfl (8 * n) (by omega) w
  rw [show ((8 * n : Nat) : Int) = 8 * (n : Int) by simp] at hmk
  have hown0 := own_room w (.bool false) 4 (8 * n) (by omega)
  have hb0 : Below w.heap.size w (w.alloc (.cells (madeCells #[.bool false] (8 * n)) 4)) := (Below.refl _ _).alloc (Nat.le_refl _) _
  go_enter Tryz.func141, Tryz.ntmps141
  go_wp2_with fail
  clear hmk
  go_loopg [6, 7, 8] n (fun q v6 v7 _v8 wr => ∃ (k : Nat) (A' : Option Addr) (c' : Nat), k + q = n ∧ v7 = .int .i64 k ∧ v6 = .slice A' (8 * k) c' ∧ wr.ownsRow w.heap.size 4 1 (.slice A' (8 * k) c') (8 * k) (((l.take k).flatMap bitsOf).map Value.bool) ∧ Below w.heap.size w wr)
  case atStart => exact ⟨0, _, _, by omega, rfl, rfl, hown0, hb0⟩
  case round =>
    obtain ⟨k, A1, c1, hq, rfl, rfl, hown1, hb1⟩ := hrel
    clear hown0 hb0
    by_cases hk : k < n
    · obtain ⟨ad, u, rfl, hbA, hu, hcell⟩ := hr.at_ hk
      have hkl : k < l.length := by rw [Hl.out]; exact hk
      obtain rfl : u = .int .u8 (l[k].toNat : Int) := by
        simp [u8c, hkl] at hu
        exact hu.symm
      have hft := flat_take hkl
      have hlen : ((l.take k).flatMap bitsOf).length = 8 * k := by simpa using hown1.1
      generalize l[k] = ck at *
      generalize (l.take k).flatMap bitsOf = acc at *
      go_wp2_with fail
      go_loopg [6, 8] 8 (fun q v6 v8 wi => ∃ (j : Nat) (A' : Option Addr) (c' : Nat), j + q = 8 ∧ v8 = .int .i64 (7 - (j : Int)) ∧ v6 = .slice A' (8 * k + j) c' ∧ wi.ownsRow w.heap.size 4 1 (.slice A' (8 * k + j) c') (8 * k + j) ((acc ++ (bitsOf ck).take j).map Value.bool) ∧ Below w.heap.size w wi)
      case atStart => exact ⟨0, _, _, rfl, rfl, rfl, by simpa using hown1, hb1⟩
      case round =>
        obtain ⟨j, A2, c2, hqj, rfl, rfl, hown2, hb2⟩ := hrel
        clear hown1 hb1
        by_cases hj : j < 8
        · have hp : ((7 : Int) - (j : Int)) = ((7 - j : Nat) : Int) := by omega
          have hbit := byte_bit ck j
          have htk := bits_take ck hj
          have hlen2 : (acc ++ (bitsOf ck).take j).length = 8 * k + j := by simpa using hown2.1
          have hcw : wr.cell? (ad.add k) = some (.int .u8 (ck.toNat : Int)) := (hb2.cell (p := ad.add k) (by rw [block_of_add]; omega)).trans hcell
          rw [hp]
          obtain ⟨m7, Hm7⟩ : ∃ m7, Hid (m7 = 7 - j) := ⟨_, Lib.hid rfl⟩
          rw [← Hm7.out] at hbit htk ⊢
          have hm8 : m7 < 8 := by have := Hm7.out; omega
          clear hp hcell
          generalize ck.toBitVec.getLsbD m7 = bt at *
          have hlt2 := hown2.lt
          have hs2 := hb2.size
          go_wp2_with (at_builtin; refine wpList_append_any _ rfl (.tmp 25) (.tmp 34) _ rfl w.heap.size 4 i0 _ 1 1 Tryz.underlying284 hi0 hz0 hz1 hz2 rfl (by omega) (.slice A2 (8 * k + j) c2) (8 * k + j) _ rfl (hown2.alloc _) (wr.heap.size + 1) (some ⟨wr.heap.size, 0, none⟩) 1 1 [.bool bt] rfl (by simpa [hbit] using Reads.of_blk (Blk.new wr 4 #[.bool bt]) (B := wr.heap.size + 1) (size := 1) (n := 1) (by omega) rfl) (by simp [Value.oneCell']) (by unfold maxLen; omega) (by omega) (by simp; omega) ?_; intro v3 w3 hown3 hg3 hat3; obtain ⟨A3, c3, rfl⟩ := own_slice hown3)
          go_roundg (8 - (j + 1))
          case measure => omega
          case rel =>
            refine ⟨j + 1, A3, c3, by omega, ?_, ?_, ?_, ?_⟩
            · have := Hm7.out; rw [this]; go_num
            · rw [Nat.add_assoc]
            · rw [htk, ← List.append_assoc, List.map_append]
              exact hown3
            · exact (hb2.alloc hs2 _).grown hg3 (by simp; omega) (fun k hk => (hlt2 k hk).1)
        · obtain rfl : j = 8 := by omega
          go_wp2_with fail
          go_roundg (n - (k + 1))
          case measure => omega
          case rel =>
            refine ⟨k + 1, A2, c2, by omega, by go_num, ?_, ?_, hb2⟩
            · rw [Nat.mul_add]
            · rw [hft]
              have e8 : (bitsOf ck).take 8 = bitsOf ck := rfl
              rw [e8] at hown2
              exact hown2
    · obtain rfl : k = n := by omega
      have hnl := Hl.out
      rw [List.take_of_length_le (by omega)] at hown1
      go_wp2_with fail
      refine (refBits_any A1 (8 * k) c1 _ wr.heap.size wr (Reads.of_own hown1) (by omega)).mono ?_
      rintro e w2 ⟨rfl, rfl⟩
      go_wp2_with fail
      refine bodyPost_ret (v := .tuple #[.int .u64 ((crcDef 0#32 (l.flatMap bitsOf)).toNat : Int), .int .i64 0]) (by simp [results, Tryz.results141, go_sem]) rfl ⟨rfl, hb1⟩
end Go.Proofs.YtlldgfejcjnpkaaGreat
