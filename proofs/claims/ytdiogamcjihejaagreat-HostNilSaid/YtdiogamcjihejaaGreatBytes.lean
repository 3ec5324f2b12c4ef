/- Slices of bytes: Clone, a word put at the end, a word read. -/
import Derived.Test.YtdiogamcjihejaaGreatClone
import Derived.Test.YtdiogamcjihejaaGreatCrc
namespace Go.Proofs.YtdiogamcjihejaaGreat
open Go.RowKit
set_option maxHeartbeats 4000000
set_option maxRecDepth 100000

theorem u8c_length (l : List UInt8) : (u8c l).length = l.length := by simp [u8c]
theorem u8c_one (l : List UInt8) : ∀ u ∈ u8c l, u.oneCell' = true := by
  intro u hu
  obtain ⟨c, _, rfl⟩ := List.mem_map.1 hu
  rfl
theorem u8c_append (l m : List UInt8) : u8c (l ++ m) = u8c l ++ u8c m := by simp [u8c]
theorem u8c_get (l : List UInt8) (k : Nat) : (u8c l)[k]? = l[k]?.map fun c => .int .u8 (c.toNat : Int) := by simp [u8c]
theorem u8c_inj {l m : List UInt8} (h : u8c l = u8c m) : l = m := by
  induction l generalizing m with
  | nil =>
    cases m with
    | nil => rfl
    | cons => cases h
  | cons a l ih =>
    cases m with
    | nil => cases h
    | cons b m =>
      simp only [u8c, List.map_cons, List.cons.injEq] at h
      obtain ⟨h1, h2⟩ := h
      have : a.toNat = b.toNat := by injection h1 with _ h; omega
      rw [ih h2, UInt8.toNat_inj.1 this]
theorem byte_info : (Tryz.prog.info? 5).map (fun i => (i.zero, i.size, i.bytes)) = some (some (.int .u8 0), 1, 1) := by kernel_rfl
/-- slices.Clone of bytes: nil stays nil. -/
theorem cloneByte_any (A : Option Addr) (n c : Nat) (l : List UInt8) (B : Nat) (w : World) (hA : A = none → n = 0) (hr : Reads w B 1 A n (u8c l)) (hB : B ≤ w.heap.size) (hn : n ≤ 1000000) :
    Calls Tryz.prog 73 #[.slice A n c] w fun e w' => ∃ v, e = .returned v ∧ w'.ownsRow w.heap.size 5 1 v n (u8c l) ∧ (A = none → v = .slice none 0 0) ∧ (A ≠ none → ∃ g, v.ownBlock = some g) ∧ Below w.heap.size w w' := by
  obtain ⟨i0, hi0, hz0, hz1, hz2⟩ := info_parts byte_info
  cases A with
  | none =>
    obtain rfl := hA rfl
    have hx : u8c l = [] := List.eq_nil_of_length_eq_zero (by simpa using hr.1)
    have he := fun (W : World) (a : Option Addr) (n c n' c' : Nat) => Lib.run_eql_slice_nil (P := Tryz.prog) W 22 5 a n c n' c' Tryz.underlying22
    go_enter Tryz.func73, Tryz.ntmps73
    go_wp2_with fail
    go_ret
    exact ⟨_, rfl, World.ownsRow_nil _ _ _ _, rfl, Below.refl _ _⟩
  | some ad =>
    have he := fun (W : World) (a : Option Addr) (n c n' c' : Nat) => Lib.run_eql_slice_nil (P := Tryz.prog) W 22 5 a n c n' c' Tryz.underlying22
    go_enter Tryz.func73, Tryz.ntmps73
    go_wp2_with (at_builtin; refine wpList_append_any _ rfl (.tmp 5) (.tmp 6) _ rfl w.heap.size 5 i0 _ 1 1 Tryz.underlying22 hi0 hz0 hz1 hz2 rfl (by omega) (.slice (some ⟨w.heap.size, 0, none⟩) 0 0) 0 [] rfl (World.ownsRow_made w #[] 0 (Nat.le_refl _) (by unfold maxLen; omega) rfl) B (some ad) n c (u8c l) rfl (hr.alloc hB _) (u8c_one l) (by unfold maxLen; omega) (by omega) (by simp) ?_; intro v1 w1 hown1 hg1 hat1)
    go_ret
    refine ⟨_, rfl, by simpa using hown1, fun h => (by cases h), fun _ => ?_, ((Below.refl _ _).alloc (Nat.le_refl _) _).grown hg1 (by simp) (fun k hk => by simp [Value.ownBlock] at hk; omega)⟩
    rcases hat1 with h | h
    · exact ⟨_, h⟩
    · exact ⟨_, h⟩
/-- The four bytes of a word, as the program cuts them. -/
theorem word_cells (s : BitVec 32) : #[Value.int .u8 ((s.toNat : Int) / 16777216), .int .u8 ((s.toNat : Int) / 65536 % 256), .int .u8 ((s.toNat : Int) / 256 % 256), .int .u8 ((s.toNat : Int) % 256)] = (u8c (wordOf s)).toArray := by
  have h24 : ((s >>> 24).setWidth 8).toNat = s.toNat / 16777216 := by
    have := s.isLt
    simp [Nat.shiftRight_eq_div_pow]
    omega
  have h16 : ((s >>> 16).setWidth 8).toNat = s.toNat / 65536 % 256 := by simp [Nat.shiftRight_eq_div_pow]
  have h8 : ((s >>> 8).setWidth 8).toNat = s.toNat / 256 % 256 := by simp [Nat.shiftRight_eq_div_pow]
  have h0 : (s.setWidth 8).toNat = s.toNat % 256 := by simp
  simp only [u8c, wordOf, List.map_cons, List.map_nil, UInt8.toNat, h24, h16, h8, h0]
  simp
theorem word_reads {w : World} {g : Nat} {t : TypeId} {s : BitVec 32} (h : Blk w g t #[Value.int .u8 ((s.toNat : Int) / 16777216), .int .u8 ((s.toNat : Int) / 65536 % 256), .int .u8 ((s.toNat : Int) / 256 % 256), .int .u8 ((s.toNat : Int) % 256)]) :
    Reads w w.heap.size 1 (some ⟨g, 0, none⟩) 4 (u8c (wordOf s)) := by
  have hr := Reads.of_blk h (B := w.heap.size) (size := 1) (n := 4) h.lt rfl
  rw [word_cells] at hr
  exact hr
/-- A word put at the end of a row of the caller's own. -/
theorem unitPut_any (v : Value) (n : Nat) (l : List UInt8) (s : BitVec 32) (base : Nat) (w : World) (hown : w.ownsRow base 5 1 v n (u8c l)) (hb : base ≤ w.heap.size) (hn : n ≤ 1000000) :
    Calls Tryz.prog 180 #[v, u32v s] w fun e w' => ∃ v', e = .returned v' ∧ w'.ownsRow base 5 1 v' (n + 4) (u8c (l ++ wordOf s)) ∧ Below base w w' := by
  obtain ⟨i0, hi0, hz0, hz1, hz2⟩ := info_parts byte_info
  have hlt := hown.lt
  go_enter Tryz.func180, Tryz.ntmps180
  go_wp2_with (at_builtin; refine wpList_append_any _ rfl (.tmp 5) (.tmp 17) _ rfl base 5 i0 _ 1 1 Tryz.underlying22 hi0 hz0 hz1 hz2 rfl (by omega) v n (u8c l) rfl (hown.alloc _) (w.heap.size + 1) (some ⟨w.heap.size, 0, none⟩) 4 4 (u8c (wordOf s)) rfl (by simpa using word_reads (Blk.new w 5 _)) (u8c_one _) (by unfold maxLen; omega) (by omega) (by simp; omega) ?_; intro v1 w1 hown1 hg1 hat1)
  go_ret
  refine ⟨_, rfl, ?_, ?_⟩
  · rw [u8c_append]; exact hown1
  · refine ((Below.refl _ _).alloc hb _).grown hg1 (by simp; omega) ?_
    intro k hk
    exact (hlt k hk).1
theorem paramWord_any (v : Value) (n : Nat) (l : List UInt8) (s : BitVec 32) (base : Nat) (w : World) (hown : w.ownsRow base 5 1 v n (u8c l)) (hb : base ≤ w.heap.size) (hn : n ≤ 1000000) :
    Calls Tryz.prog 178 #[v, u32v s] w fun e w' => ∃ v', e = .returned v' ∧ w'.ownsRow base 5 1 v' (n + 4) (u8c (l ++ wordOf s)) ∧ Below base w w' := by
  obtain ⟨i0, hi0, hz0, hz1, hz2⟩ := info_parts byte_info
  have hlt := hown.lt
  go_enter Tryz.func178, Tryz.ntmps178
  go_wp2_with (at_builtin; refine wpList_append_any _ rfl (.tmp 5) (.tmp 17) _ rfl base 5 i0 _ 1 1 Tryz.underlying22 hi0 hz0 hz1 hz2 rfl (by omega) v n (u8c l) rfl (hown.alloc _) (w.heap.size + 1) (some ⟨w.heap.size, 0, none⟩) 4 4 (u8c (wordOf s)) rfl (by simpa using word_reads (Blk.new w 5 _)) (u8c_one _) (by unfold maxLen; omega) (by omega) (by simp; omega) ?_; intro v1 w1 hown1 hg1 hat1)
  go_ret
  refine ⟨_, rfl, ?_, ?_⟩
  · rw [u8c_append]; exact hown1
  · refine ((Below.refl _ _).alloc hb _).grown hg1 (by simp; omega) ?_
    intro k hk
    exact (hlt k hk).1
theorem or32 (x y : Int) : bits .or .u32 x y = ((BitVec.ofInt 32 x ||| BitVec.ofInt 32 y).toNat : Int) := by
  unfold bits
  have h := (BitVec.ofInt 32 x ||| BitVec.ofInt 32 y).isLt
  exact IntWalk.u32_in ((BitVec.ofInt 32 x ||| BitVec.ofInt 32 y).toNat : Int) ⟨by omega, by omega⟩
theorem ofWord_or (a b c d : UInt8) : (((a.toBitVec.setWidth 32 <<< 24) ||| (b.toBitVec.setWidth 32 <<< 16)) ||| (c.toBitVec.setWidth 32 <<< 8)) ||| d.toBitVec.setWidth 32 = ofWord a b c d := by
  have far : ∀ (x : UInt8) (i : Nat), 8 ≤ i → x.toBitVec.getLsbD i = false := fun x i h => BitVec.getLsbD_of_ge _ _ h
  apply BitVec.eq_of_getLsbD_eq
  intro i hi
  unfold ofWord
  simp only [BitVec.getLsbD_xor, BitVec.getLsbD_or, BitVec.getLsbD_shiftLeft, BitVec.getLsbD_setWidth]
  by_cases h8 : i < 8
  · simp [h8, hi, show i < 16 by omega, show i < 24 by omega]
  · have fd := far d i (by omega)
    by_cases h16 : i < 16
    · simp [h8, hi, h16, fd, show i < 24 by omega]
    · have fc := far c (i - 8) (by omega)
      by_cases h24 : i < 24
      · simp [h8, hi, h16, h24, fd, fc]
      · have fb := far b (i - 16) (by omega)
        simp [h8, hi, h16, h24, fd, fc, fb]
theorem up16 (c : UInt8) : BitVec.ofInt 32 ((c.toNat : Int) % 4294967296 * 65536 % 4294967296) = c.toBitVec.setWidth 32 <<< 16 := by
  apply BitVec.eq_of_toNat_eq
  have h := c.toNat_lt
  simp [BitVec.toNat_shiftLeft, Nat.shiftLeft_eq]
  omega
theorem up8 (c : UInt8) : BitVec.ofInt 32 ((c.toNat : Int) % 4294967296 * 256 % 4294967296) = c.toBitVec.setWidth 32 <<< 8 := by
  apply BitVec.eq_of_toNat_eq
  have h := c.toNat_lt
  simp [BitVec.toNat_shiftLeft, Nat.shiftLeft_eq]
  omega
theorem up0 (c : UInt8) : BitVec.ofInt 32 ((c.toNat : Int) % 4294967296) = c.toBitVec.setWidth 32 := by
  apply BitVec.eq_of_toNat_eq
  have h := c.toNat_lt
  simp
  omega
theorem get_word (b0 b1 b2 b3 : UInt8) : bits .or .u32 (bits .or .u32 (bits .or .u32 ((b0.toNat : Int) % 4294967296 * 16777216 % 4294967296) ((b1.toNat : Int) % 4294967296 * 65536 % 4294967296)) ((b2.toNat : Int) % 4294967296 * 256 % 4294967296)) ((b3.toNat : Int) % 4294967296)
    = ((ofWord b0 b1 b2 b3).toNat : Int) := by
  rw [or32, or32, or32, ofInt_nat, ofInt_nat, byteUp, up16, up8, up0, ofWord_or]
/-- A word read. -/
theorem unitGet_any (ad : Addr) (n c : Nat) (b0 b1 b2 b3 : UInt8) (w : World) (hn : 4 ≤ n) (h0 : w.cell? (ad.add 0) = some (.int .u8 (b0.toNat : Int))) (h1 : w.cell? (ad.add 1) = some (.int .u8 (b1.toNat : Int)))
    (h2 : w.cell? (ad.add 2) = some (.int .u8 (b2.toNat : Int))) (h3 : w.cell? (ad.add 3) = some (.int .u8 (b3.toNat : Int))) :
    Calls Tryz.prog 183 #[.slice (some ad) n c] w fun e w' => e = .returned (u32v (ofWord b0 b1 b2 b3)) ∧ ∃ k, w' = w.drewN k := by
  have g0 : (0 : Int) < n := by omega
  have g1 : (1 : Int) < n := by omega
  have g2 : (2 : Int) < n := by omega
  have g3 : (3 : Int) < n := by omega
  rw [show ad.add 0 = ad from rfl] at h0
  rw [show ad.add 1 = ⟨ad.block, ad.off + 1, none⟩ from rfl] at h1
  rw [show ad.add 2 = ⟨ad.block, ad.off + 2, none⟩ from rfl] at h2
  rw [show ad.add 3 = ⟨ad.block, ad.off + 3, none⟩ from rfl] at h3
  go_enter Tryz.func183, Tryz.ntmps183
  go_wp2_with fail
  go_big_quiet (fail)
  go_wp2_with fail
  go_ret
  refine ⟨?_, _, rfl⟩
  exact congrArg (fun x => Ending.returned (Value.int .u32 x)) (get_word b0 b1 b2 b3)
theorem paramNumber_any (ad : Addr) (n c : Nat) (b0 b1 b2 b3 : UInt8) (w : World) (hn : 4 ≤ n) (h0 : w.cell? (ad.add 0) = some (.int .u8 (b0.toNat : Int))) (h1 : w.cell? (ad.add 1) = some (.int .u8 (b1.toNat : Int)))
    (h2 : w.cell? (ad.add 2) = some (.int .u8 (b2.toNat : Int))) (h3 : w.cell? (ad.add 3) = some (.int .u8 (b3.toNat : Int))) :
    Calls Tryz.prog 217 #[.slice (some ad) n c] w fun e w' => e = .returned (u32v (ofWord b0 b1 b2 b3)) ∧ ∃ k, w' = w.drewN k := by
  have g0 : (0 : Int) < n := by omega
  have g1 : (1 : Int) < n := by omega
  have g2 : (2 : Int) < n := by omega
  have g3 : (3 : Int) < n := by omega
  rw [show ad.add 0 = ad from rfl] at h0
  rw [show ad.add 1 = ⟨ad.block, ad.off + 1, none⟩ from rfl] at h1
  rw [show ad.add 2 = ⟨ad.block, ad.off + 2, none⟩ from rfl] at h2
  rw [show ad.add 3 = ⟨ad.block, ad.off + 3, none⟩ from rfl] at h3
  go_enter Tryz.func217, Tryz.ntmps217
  go_wp2_with fail
  go_big_quiet (fail)
  go_wp2_with fail
  go_ret
  refine ⟨?_, _, rfl⟩
  exact congrArg (fun x => Ending.returned (Value.int .u32 x)) (get_word b0 b1 b2 b3)
/-- crc.Seal. -/
theorem crcSeal_any (A : Option Addr) (n c : Nat) (l : List UInt8) (B : Nat) (w : World) (hA : A = none → n = 0) (hr : Reads w B 1 A n (u8c l)) (hB : B ≤ w.heap.size) (hn : n ≤ 100000) :
    Calls Tryz.prog 181 #[.slice A n c] w fun e w' => ∃ v, e = .returned v ∧ w'.ownsRow w.heap.size 5 1 v (n + 4) (u8c (sealM l)) ∧ Below w.heap.size w w' := by
  obtain ⟨i0, hi0, hz0, hz1, hz2⟩ := info_parts byte_info
  go_enter Tryz.func181, Tryz.ntmps181
  go_wp2_with fail
  refine (crcBits_any A n c l B w hr (by omega)).mono ?_
  rintro e w' ⟨rfl, rfl⟩
  go_wp2_with fail
  refine (cloneByte_any A n c l B w' hA hr hB (by omega)).mono ?_
  rintro e w1 ⟨v1, rfl, hown1, _, _, hb1⟩
  have hlt := hown1.lt
  have hs1 := hb1.size
  go_wp2_with (at_builtin; refine wpList_append_any _ rfl (.tmp 7) (.tmp 19) _ rfl w'.heap.size 5 i0 _ 1 1 Tryz.underlying22 hi0 hz0 hz1 hz2 rfl (by omega) v1 n (u8c l) rfl (hown1.alloc _) (w1.heap.size + 1) (some ⟨w1.heap.size, 0, none⟩) 4 4 (u8c (wordOf (crcOf 0#32 l))) rfl (by simpa using word_reads (Blk.new w1 5 _)) (u8c_one _) (by unfold maxLen; omega) (by omega) (by simp; omega) ?_; intro v2 w2 hown2 hg2 hat2)
  go_ret
  refine ⟨_, rfl, ?_, ?_⟩
  · unfold sealM; rw [u8c_append]; exact hown2
  · exact (hb1.alloc (by omega) _).grown hg2 (by simp; omega) (fun k hk => (hlt k hk).1)
/-- crc.Valid. -/
theorem crcValid_any (A : Option Addr) (n c : Nat) (l : List UInt8) (B : Nat) (w : World) (hr : Reads w B 1 A n (u8c l)) (hn4 : 4 ≤ n) (hn : n ≤ 100000) :
    Calls Tryz.prog 182 #[.slice A n c] w fun e w' => e = .returned (.bool (crcOf 0#32 l == 0#32)) ∧ ∃ k, w' = w.drewN k := by
  go_enter Tryz.func182, Tryz.ntmps182
  go_wp2_with fail
  refine (crcBits_any A n c l B w hr (by omega)).mono ?_
  rintro e w' ⟨rfl, rfl⟩
  go_wp2_with fail
  go_ret
  refine ⟨?_, 0, rfl⟩
  have : (((crcOf 0#32 l).toNat : Int) == 0) = (crcOf 0#32 l == 0#32) := by
    rw [Bool.eq_iff_iff]
    simp only [beq_iff_eq]
    constructor
    · intro h
      apply BitVec.eq_of_toNat_eq
      simp
      omega
    · intro h
      rw [h]
      rfl
  exact congrArg (fun x => Ending.returned (Value.bool x)) this
end Go.Proofs.YtdiogamcjihejaaGreat
