/- The reference's remainder (parapetref01): Degree, Bits, Of at the generator. -/
import Derived.Test.YtdiogamcjihejaaGreatRefM
import Derived.Test.YtdiogamcjihejaaGreatBytes
namespace Go.Proofs.YtdiogamcjihejaaGreat
open Go.RowKit
set_option maxHeartbeats 4000000
set_option maxRecDepth 100000

theorem and1_64 (x : Int) (h0 : 0 ≤ x) (h1 : x < 18446744073709551616) : bits .and .u64 x 1 = x % 2 := bits_mask .u64 64 (by decide) (fun n a b => IntWalk.u64_in n ⟨a, by simp at b; omega⟩) 1 (by decide) x h0 h1
theorem and1_8 (x : Int) (h0 : 0 ≤ x) (h1 : x < 256) : bits .and .u8 x 1 = x % 2 := bits_mask .u8 8 (by decide) (fun n a b => IntWalk.u8_in n ⟨a, by simp at b; omega⟩) 1 (by decide) x h0 h1
theorem gen_bit (k : Nat) : (bits .and .u64 ((4812730177 : Int) / 2 ^ k) 1 != 0) = decide ((4812730177 : Nat) / 2 ^ k % 2 = 1) := by
  have e : (4812730177 : Int) / 2 ^ k = ((4812730177 / 2 ^ k : Nat) : Int) := by simp
  have hle : 4812730177 / 2 ^ k ≤ 4812730177 := Nat.div_le_self _ _
  rw [e]
  generalize 4812730177 / 2 ^ k = y at *
  rw [and1_64 _ (by omega) (by omega), Bool.eq_iff_iff]
  simp
  omega
theorem refDegree_any (w : World) : Calls Tryz.prog 233 #[.int .u64 4812730177] w fun e w' => e = .returned (.int .i64 32) ∧ w' = w := by
  go_enter Tryz.func233, Tryz.ntmps233
  go_wp2_with fail
  go_loopg [3, 4] 64 (fun q v3 v4 wr => ∃ (k : Nat), k + q = 64 ∧ v4 = .int .i64 k ∧ v3 = .int .i64 (degTo k) ∧ wr = w)
  case atStart => exact ⟨0, rfl, rfl, rfl, rfl⟩
  case round =>
    obtain ⟨k, hq, rfl, rfl, rfl⟩ := hrel
    have hs := degTo_succ k
    have hg := gen_bit k
    by_cases hk : k < 64
    · go_wp2_with fail
      · go_roundg (64 - (k + 1))
        case measure => omega
        case rel =>
          rename_i h
          refine ⟨k + 1, by omega, by go_num, ?_, rfl⟩
          rw [hs, if_pos h]
      · go_roundg (64 - (k + 1))
        case measure => omega
        case rel =>
          rename_i h
          refine ⟨k + 1, by omega, by go_num, ?_, rfl⟩
          rw [hs, if_neg h]
    · obtain rfl : k = 64 := by omega
      clear hs hg
      go_wp2_with fail
      go_ret
      exact ⟨by simp [degTo_64], rfl⟩
theorem ofInt_nat64 (s : BitVec 64) : BitVec.ofInt 64 (s.toNat : Int) = s := by simp
theorem msb64 (s : BitVec 32) : (bits .and .u64 ((s.toNat : Int) / 2147483648) 1 != 0) = s.msb := by
  have h := s.isLt
  rw [and1_64 _ (by omega) (by omega), msb32, Bool.eq_iff_iff]
  simp
  omega
theorem rem_nat (s : BitVec 32) (b : Bool) (x : BitVec 64) (h : ((s.setWidth 64 <<< 1) ^^^ (if b then 1#64 else 0#64)) ^^^ (if s.msb then 0x11edc6f41#64 else 0#64) = x) : ((crcZ s ^^^ bit0 b).toNat : Int) = (x.toNat : Int) := by
  rw [← h, rem_step, down64]
theorem rx_ff (s : BitVec 32) (h : s.msb = false) : (s.toNat : Int) * 2 = ((crcZ s ^^^ bit0 false).toNat : Int) := by
  rw [rem_nat s false (s.setWidth 64 <<< 1) (by rw [h]; simp), ← up64_2]
  have := s.isLt
  rw [BitVec.toNat_ofInt]
  omega
theorem rx_ft (s : BitVec 32) (h : s.msb = true) : bits .xor .u64 ((s.toNat : Int) * 2) 4812730177 = ((crcZ s ^^^ bit0 false).toNat : Int) := by
  rw [rem_nat s false (s.setWidth 64 <<< 1 ^^^ 0x11edc6f41#64) (by rw [h]; simp), xor64, up64_2]
  rfl
theorem rx_tf (s : BitVec 32) (h : s.msb = false) : bits .xor .u64 ((s.toNat : Int) * 2) 1 = ((crcZ s ^^^ bit0 true).toNat : Int) := by
  rw [rem_nat s true (s.setWidth 64 <<< 1 ^^^ 1#64) (by rw [h]; simp), xor64, up64_2]
  rfl
theorem rx_tt (s : BitVec 32) (h : s.msb = true) : bits .xor .u64 (bits .xor .u64 ((s.toNat : Int) * 2) 1) 4812730177 = ((crcZ s ^^^ bit0 true).toNat : Int) := by
  rw [rem_nat s true ((s.setWidth 64 <<< 1 ^^^ 1#64) ^^^ 0x11edc6f41#64) (by rw [h]; simp), xor64 ((s.toNat : Int) * 2), up64_2, xor64, ofInt_nat64]
  rfl
theorem crcDef_take {l : List Bool} {k : Nat} (h : k < l.length) : crcDef 0#32 (l.take (k + 1)) = crcZ (crcDef 0#32 (l.take k)) ^^^ bit0 l[k] := by
  unfold crcDef
  rw [List.take_succ_eq_append_getElem h, List.foldl_append]
  rfl
theorem refBits_any (A : Option Addr) (n c : Nat) (l : List Bool) (B : Nat) (w : World) (hr : Reads w B 1 A n (l.map Value.bool)) (hn : n < 1073741824) :
    Calls Tryz.prog 210 #[.slice A n c, .int .u64 4812730177] w fun e w' => e = .returned (.int .u64 ((crcDef 0#32 l).toNat : Int)) ∧ w' = w := by
  have hl : l.length = n := by have := hr.1; simpa using this
  have Hl := Lib.hid hl
  clear hl
  go_enter Tryz.func210, Tryz.ntmps210
  go_wp2_with fail
  refine (refDegree_any w).mono ?_
  rintro e w1 ⟨rfl, rfl⟩
  go_wp2_with fail
  go_loopg [6, 7, 8] n (fun q v6 v7 _v8 wr => ∃ (k : Nat), k + q = n ∧ v7 = .int .i64 k ∧ v6 = .int .u64 ((crcDef 0#32 (l.take k)).toNat : Int) ∧ wr = w1)
  case atStart => exact ⟨0, by omega, rfl, rfl, rfl⟩
  case round =>
    obtain ⟨k, hq, rfl, rfl, rfl⟩ := hrel
    by_cases hk : k < n
    · obtain ⟨ad, u, rfl, hb, hu, hcell⟩ := hr.at_ hk
      have hkl : k < l.length := by rw [Hl.out]; exact hk
      obtain rfl : u = .bool l[k] := by
        simp [hkl] at hu
        exact hu.symm
      have htk := crcDef_take hkl
      generalize crcDef 0#32 (l.take k) = s at *
      have hm := msb64 s
      generalize l[k] = bk at *
      cases bk
      all_goals go_wp2_with fail
      all_goals
        go_roundg (n - (k + 1))
        case measure => omega
        case rel =>
          rename_i h
          refine ⟨k + 1, by omega, by go_num, ?_, rfl⟩
          rw [htk]
          first | rw [← rx_ff _ h] | rw [← rx_ft _ h] | rw [← rx_tf _ h] | rw [← rx_tt _ h]
    · obtain rfl : k = n := by omega
      go_wp2_with fail
      go_ret
      refine ⟨?_, rfl⟩
      have hnl := Hl.out
      rw [List.take_of_length_le (by omega)]
      rfl
theorem bool_info : (Tryz.prog.info? 4).map (fun i => (i.zero, i.size, i.bytes)) = some (some (.bool false), 1, 1) := by kernel_rfl
theorem bool_one (l : List Bool) : ∀ u ∈ l.map Value.bool, u.oneCell' = true := by
  intro u hu
  obtain ⟨c, _, rfl⟩ := List.mem_map.1 hu
  rfl
theorem byte_bit (c : UInt8) (j : Nat) : (bits .and .u8 ((c.toNat : Int) / 2 ^ (7 - j)) 1 != 0) = c.toBitVec.getLsbD (7 - j) := by
  have e : (c.toNat : Int) / 2 ^ (7 - j) = ((c.toNat / 2 ^ (7 - j) : Nat) : Int) := by simp
  have hle : c.toNat / 2 ^ (7 - j) ≤ c.toNat := Nat.div_le_self _ _
  have hc := c.toNat_lt
  have hb : c.toBitVec.getLsbD (7 - j) = decide (c.toNat / 2 ^ (7 - j) % 2 = 1) := by
    rw [← BitVec.testBit_toNat, Nat.testBit_eq_decide_div_mod_eq]
    rfl
  rw [e, hb]
  generalize c.toNat / 2 ^ (7 - j) = y at *
  rw [and1_8 _ (by omega) (by omega), Bool.eq_iff_iff]
  simp
  omega
theorem flat_take {l : List UInt8} {k : Nat} (h : k < l.length) : (l.take (k + 1)).flatMap bitsOf = (l.take k).flatMap bitsOf ++ bitsOf l[k] := by
  rw [List.take_succ_eq_append_getElem h, List.flatMap_append]
  simp
theorem bits_take (c : UInt8) {j : Nat} (h : j < 8) : (bitsOf c).take (j + 1) = (bitsOf c).take j ++ [c.toBitVec.getLsbD (7 - j)] := by
  have hl : j < (bitsOf c).length := h
  have hg := bitsOf_get c j h
  rw [List.take_succ_eq_append_getElem hl]
  rw [List.getElem?_eq_getElem hl] at hg
  rw [Option.some.inj hg]
/-- make with room. -/
theorem run_room {t e : TypeId} {z : Value} (ht : (Tryz.prog).underlying t = some (.slice e)) (hinfo : ((Tryz.prog).info? e).map (fun i => (i.zero, i.size, i.bytes)) = some (some z, 1, 1)) (hz1 : z.cells = #[z]) (c : Nat) (hc : c ≤ 100000000) (w : World) :
    (Instr.makeSlice t (.int .i64 0) (.int .i64 (c : Int))).run Tryz.prog w = .ok (.slice (some ⟨w.heap.size, 0, none⟩) 0 c) (w.alloc (.cells (madeCells #[z] c) e)) := by
  obtain ⟨i, hi, hzz⟩ := Option.map_eq_some_iff.1 hinfo
  simp only [Prod.mk.injEq] at hzz
  obtain ⟨hz, hs, hb⟩ := hzz
  have hr := run_make (P := Tryz.prog) w t e i z ht hi hz .i64 .i64 0 c (Int.le_refl _) (by omega) (by rw [hb]; omega) (by omega)
  simp only [Int.toNat_natCast, hs, Nat.mul_one, hz1, Int.toNat_zero] at hr
  exact hr
theorem own_room (w : World) (z : Value) (e : TypeId) (c : Nat) (hc : c ≤ 100000000) : (w.alloc (.cells (madeCells #[z] c) e)).ownsRow w.heap.size e 1 (.slice (some ⟨w.heap.size, 0, none⟩) 0 c) 0 [] :=
  World.ownsRow_made w _ c (Nat.le_refl _) (by unfold maxLen; omega) (by simp [size_madeCells])
theorem refOf_any (A : Option Addr) (n c : Nat) (l : List UInt8) (B : Nat) (w : World) (hr : Reads w B 1 A n (u8c l)) (hB : B ≤ w.heap.size) (hn : n < 1000000) :
    Calls Tryz.prog 173 #[.slice A n c, .int .u64 4812730177] w fun e w' => e = .returned (.tuple #[.int .u64 ((crcDef 0#32 (l.flatMap bitsOf)).toNat : Int), .int .i64 0]) ∧ Below w.heap.size w w' := by
  have hl : l.length = n := by have := hr.1; simpa [u8c] using this
  have Hl := Lib.hid hl
  clear hl
  obtain ⟨i0, hi0, hz0, hz1, hz2⟩ := info_parts bool_info
  have hmk := fun w => run_room (t := 271) (z := .bool false) Tryz.underlying271 bool_info rfl (8 * n) (by omega) w
  rw [show ((8 * n : Nat) : Int) = 8 * (n : Int) by simp] at hmk
  have hown0 := own_room w (.bool false) 4 (8 * n) (by omega)
  have hb0 : Below w.heap.size w (w.alloc (.cells (madeCells #[.bool false] (8 * n)) 4)) := (Below.refl _ _).alloc (Nat.le_refl _) _
  go_enter Tryz.func173, Tryz.ntmps173
  go_wp2_with fail
  clear hmk
  go_loopg [6, 7, 8] n (fun q v6 v7 _v8 wr => ∃ (k : Nat) (A' : Option Addr) (c' : Nat), k + q = n ∧ v7 = .int .i64 k ∧ v6 = .slice A' (8 * k) c' ∧ wr.ownsRow w.heap.size 4 1 (.slice A' (8 * k) c') (8 * k) (((l.take k).flatMap bitsOf).map Value.bool) ∧ Below w.heap.size w wr)
  case atStart => exact ⟨0, _, _, by omega, rfl, rfl, hown0, hb0⟩
  case round =>
    obtain ⟨k, A1, c1, hq, rfl, rfl, hown1, hb1⟩ := hrel
    clear hown0 hb0
    by_cases hk : k < n
    · obtain ⟨ad, u, rfl, hbA, hu, hcell⟩ := hr.at_ hk
      have hkl : k < l.length := by rw [Hl.out]; exact hk
      obtain rfl : u = .int .u8 (l[k].toNat : Int) := by
        simp [u8c, hkl] at hu
        exact hu.symm
      have hft := flat_take hkl
      have hlen : ((l.take k).flatMap bitsOf).length = 8 * k := by simpa using hown1.1
      generalize l[k] = ck at *
      generalize (l.take k).flatMap bitsOf = acc at *
      go_wp2_with fail
      go_loopg [6, 8] 8 (fun q v6 v8 wi => ∃ (j : Nat) (A' : Option Addr) (c' : Nat), j + q = 8 ∧ v8 = .int .i64 (7 - (j : Int)) ∧ v6 = .slice A' (8 * k + j) c' ∧ wi.ownsRow w.heap.size 4 1 (.slice A' (8 * k + j) c') (8 * k + j) ((acc ++ (bitsOf ck).take j).map Value.bool) ∧ Below w.heap.size w wi)
      case atStart => exact ⟨0, _, _, rfl, rfl, rfl, by simpa using hown1, hb1⟩
      case round =>
        obtain ⟨j, A2, c2, hqj, rfl, rfl, hown2, hb2⟩ := hrel
        clear hown1 hb1
        by_cases hj : j < 8
        · have hp : ((7 : Int) - (j : Int)) = ((7 - j : Nat) : Int) := by omega
          have hbit := byte_bit ck j
          have htk := bits_take ck hj
          have hlen2 : (acc ++ (bitsOf ck).take j).length = 8 * k + j := by simpa using hown2.1
          have hcw : wr.cell? (ad.add k) = some (.int .u8 (ck.toNat : Int)) := (hb2.cell (p := ad.add k) (by rw [block_of_add]; omega)).trans hcell
          rw [hp]
          obtain ⟨m7, Hm7⟩ : ∃ m7, Hid (m7 = 7 - j) := ⟨_, Lib.hid rfl⟩
          rw [← Hm7.out] at hbit htk ⊢
          have hm8 : m7 < 8 := by have := Hm7.out; omega
          clear hp hcell
          generalize ck.toBitVec.getLsbD m7 = bt at *
          have hlt2 := hown2.lt
          have hs2 := hb2.size
          go_wp2_with (at_builtin; refine wpList_append_any _ rfl (.tmp 25) (.tmp 34) _ rfl w.heap.size 4 i0 _ 1 1 Tryz.underlying271 hi0 hz0 hz1 hz2 rfl (by omega) (.slice A2 (8 * k + j) c2) (8 * k + j) _ rfl (hown2.alloc _) (wr.heap.size + 1) (some ⟨wr.heap.size, 0, none⟩) 1 1 [.bool bt] rfl (by simpa [hbit] using Reads.of_blk (Blk.new wr 4 #[.bool bt]) (B := wr.heap.size + 1) (size := 1) (n := 1) (by omega) rfl) (by simp [Value.oneCell']) (by unfold maxLen; omega) (by omega) (by simp; omega) ?_; intro v3 w3 hown3 hg3 hat3; obtain ⟨A3, c3, rfl⟩ := own_slice hown3)
          go_roundg (8 - (j + 1))
          case measure => omega
          case rel =>
            refine ⟨j + 1, A3, c3, by omega, ?_, ?_, ?_, ?_⟩
            · have := Hm7.out; rw [this]; go_num
            · rw [Nat.add_assoc]
            · rw [htk, ← List.append_assoc, List.map_append]
              exact hown3
            · exact (hb2.alloc hs2 _).grown hg3 (by simp; omega) (fun k hk => (hlt2 k hk).1)
        · obtain rfl : j = 8 := by omega
          go_wp2_with fail
          go_roundg (n - (k + 1))
          case measure => omega
          case rel =>
            refine ⟨k + 1, A2, c2, by omega, by go_num, ?_, ?_, hb2⟩
            · rw [Nat.mul_add]
            · rw [hft]
              have e8 : (bitsOf ck).take 8 = bitsOf ck := rfl
              rw [e8] at hown2
              exact hown2
    · obtain rfl : k = n := by omega
      have hnl := Hl.out
      rw [List.take_of_length_le (by omega)] at hown1
      go_wp2_with fail
      refine (refBits_any A1 (8 * k) c1 _ wr.heap.size wr (Reads.of_own hown1) (by omega)).mono ?_
      rintro e w2 ⟨rfl, rfl⟩
      go_wp2_with fail
      refine bodyPost_ret (v := .tuple #[.int .u64 ((crcDef 0#32 (l.flatMap bitsOf)).toNat : Int), .int .i64 0]) (by simp [results, Tryz.results173, go_sem]) rfl ⟨rfl, hb1⟩
end Go.Proofs.YtdiogamcjihejaaGreat
