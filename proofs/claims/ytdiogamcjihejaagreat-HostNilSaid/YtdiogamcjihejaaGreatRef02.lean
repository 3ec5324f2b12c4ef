/- The reference's check (parapetref02): Word, Sum, Seal, Valid. -/
import Derived.Test.YtdiogamcjihejaaGreatRef01
import Derived.Test.YtdiogamcjihejaaGreatOwnKit
import Derived.Deep.RegionHeld3
namespace Go.Proofs.YtdiogamcjihejaaGreat
open Go.RowKit
set_option maxHeartbeats 4000000
set_option maxRecDepth 100000

theorem rword_any (s : BitVec 32) (w : World) : Calls Tryz.prog 114 #[u32v s] w fun e w' => ∃ v, e = .returned v ∧ w'.ownsRow w.heap.size 5 1 v 4 (u8c (wordOf s)) ∧ Below w.heap.size w w' := by
  have hown : (w.alloc (.cells #[Value.int .u8 ((s.toNat : Int) / 16777216), .int .u8 ((s.toNat : Int) / 65536 % 256), .int .u8 ((s.toNat : Int) / 256 % 256), .int .u8 ((s.toNat : Int) % 256)] 5)).ownsRow w.heap.size 5 1 (.slice (some ⟨w.heap.size, 0, none⟩) 4 4) 4 (u8c (wordOf s)) := by
    have := own_full w #[Value.int .u8 ((s.toNat : Int) / 16777216), .int .u8 ((s.toNat : Int) / 65536 % 256), .int .u8 ((s.toNat : Int) / 256 % 256), .int .u8 ((s.toNat : Int) % 256)] 5 w.heap.size (Nat.le_refl _) (by simp [maxLen])
    rw [word_cells] at this ⊢
    simpa [u8c, wordOf] using this
  go_enter Tryz.func114, Tryz.ntmps114
  go_wp2_with fail
  go_ret
  exact ⟨_, rfl, by simpa using hown, (Below.refl _ _).alloc (Nat.le_refl _) _⟩
theorem rsum_any (A : Option Addr) (n c : Nat) (l : List UInt8) (B : Nat) (w : World) (hr : Reads w B 1 A n (u8c l)) (hB : B ≤ w.heap.size) (hn : n < 900000) :
    Calls Tryz.prog 115 #[.slice A n c] w fun e w' => e = .returned (u32v (crcOf 0#32 l)) ∧ Below w.heap.size w w' := by
  obtain ⟨i0, hi0, hz0, hz1, hz2⟩ := info_parts byte_info
  have hmk := fun w => run_room (t := 22) (z := .int .u8 0) Tryz.underlying22 byte_info rfl (n + 4) (by omega) w
  rw [show ((n + 4 : Nat) : Int) = (n : Int) + 4 by simp] at hmk
  have hown0 := own_room w (.int .u8 0) 5 (n + 4) (by omega)
  have hb0 : Below w.heap.size w (w.alloc (.cells (madeCells #[.int .u8 0] (n + 4)) 5)) := (Below.refl _ _).alloc (Nat.le_refl _) _
  have hwr := fun (x : BitVec 32) => (show IntKind.u32.wrap (x.toNat : Int) = (x.toNat : Int) from IntWalk.u32_in _ (by have := x.isLt; omega))
  have hzr : ∀ (W : World), Reads (W.alloc (.cells #[Value.int .u8 0, .int .u8 0, .int .u8 0, .int .u8 0] 5)) (W.heap.size + 1) 1 (some ⟨W.heap.size, 0, none⟩) 4 (u8c [0, 0, 0, 0]) := fun W => Reads.of_blk (Blk.new W _ _) (by omega) rfl
  go_enter Tryz.func115, Tryz.ntmps115
  go_wp2_with (first
    | (at_builtin; refine wpList_append_any _ rfl (.tmp 9) (.tmp 10) _ rfl w.heap.size 5 i0 _ 1 1 Tryz.underlying22 hi0 hz0 hz1 hz2 rfl (by omega) (.slice (some ⟨w.heap.size, 0, none⟩) 0 (n + 4)) 0 [] rfl hown0 B A n c (u8c l) rfl (hr.alloc hB _) (u8c_one l) (by unfold maxLen; omega) (by omega) (by simp) ?_; intro v1 w1 hown1 hg1 hat1; rw [Nat.zero_add, List.nil_append] at hown1; obtain ⟨A1, c1, rfl⟩ := own_slice hown1; have hb1 := hb0.grown hg1 (by simp) (fun k hk => by simp [Value.ownBlock] at hk; omega); have hlt1 := hown1.lt)
    | (at_builtin; refine wpList_append_any _ rfl (.tmp 11) (.tmp 12) _ rfl w.heap.size 5 i0 _ 1 1 Tryz.underlying22 hi0 hz0 hz1 hz2 rfl (by omega) (.slice A1 n c1) n (u8c l) rfl (hown1.alloc _) (w1.heap.size + 1) (some ⟨w1.heap.size, 0, none⟩) 4 4 (u8c [0, 0, 0, 0]) rfl (hzr _) (u8c_one _) (by unfold maxLen; omega) (by omega) (by have := hb1.size; simp; omega) ?_; intro v2 w2 hown2 hg2 hat2; obtain ⟨A2, c2, rfl⟩ := own_slice hown2; have hb2 := (hb1.alloc hb1.size _).grown hg2 (by have := hb1.size; simp; omega) (fun k hk => (hlt1 k hk).1)))
  clear hmk hown0 hb0 hg1 hg2 hat1 hat2 hown1 hb1 hlt1 hzr
  refine (refOf_any A2 (n + 4) c2 (l ++ [0, 0, 0, 0]) w2.heap.size w2 (by rw [u8c_append]; exact Reads.of_own hown2) (Nat.le_refl _) (by omega)).mono ?_
  rintro e w3 ⟨rfl, hb3⟩
  rw [crc_same]
  have hb4 := hb2.trans (hb3.mono hb2.size)
  go_wp2_with fail
  go_ret
  exact ⟨rfl, hb4⟩
/-- string(b) of bytes that read as l. -/
theorem conv_reads {w : World} {B n c : Nat} {A : Option Addr} {l : List UInt8} (hr : Reads w B 1 A n (u8c l)) : (convert 22 9 (.slice A n c)).run Tryz.prog w = .ok (.string ⟨l.toArray⟩) w := by
  have hl : l.length = n := by have := hr.1; simpa [u8c] using this
  cases A with
  | none =>
    have h0 : n = 0 := by
      rcases Nat.eq_zero_or_pos n with h | h
      · exact h
      · obtain ⟨ad, h, _⟩ := hr.2 h; cases h
    subst h0
    obtain rfl : l = [] := List.eq_nil_of_length_eq_zero hl
    exact run_convert_bytes_nil w 22 5 Tryz.underlying22 Tryz.underlying5 0 c 9 Tryz.underlying9
  | some ad =>
    have hload : (loadCells ad n).run Tryz.prog w = .ok ((l.map fun c => (c.toNat : Int)).map (Value.int .u8)).toArray w := by
      have := run_loadCells_list (P := Tryz.prog) w ad (u8c l) (fun j v hj => by
        have hjl : j < n := by
          have := (List.getElem?_eq_some_iff.1 hj).1
          rw [u8c_length, hl] at this
          exact this
        obtain ⟨ad', e, _, hc⟩ := hr.2 (by omega)
        injection e with e
        subst e
        exact hc j v hj)
      rw [u8c_length, hl] at this
      rw [this]
      simp [u8c]
    rw [run_convert_bytes_string w _ _ _ _ n c Tryz.underlying22 Tryz.underlying5 Tryz.underlying9, run_bytesToString w ad n c _ hload, foldl_push_bytes]
    have e : ∀ l : List UInt8, List.map ((fun n : Int => UInt8.ofNat n.toNat) ∘ fun c : UInt8 => (c.toNat : Int)) l = l := fun l => by
      induction l with
      | nil => rfl
      | cons x l ih => rw [List.map_cons, ih]; simp
    simp [ByteArray.empty, ByteArray.emptyWithCapacity]
    exact e l
theorem rseal_any (A : Option Addr) (n c : Nat) (l : List UInt8) (B : Nat) (w : World) (hr : Reads w B 1 A n (u8c l)) (hB : B ≤ w.heap.size) (hn : n ≤ 100000) :
    Calls Tryz.prog 150 #[.slice A n c] w fun e w' => ∃ v, e = .returned v ∧ w'.ownsRow w.heap.size 5 1 v (n + 4) (u8c (sealM l)) ∧ Below w.heap.size w w' := by
  obtain ⟨i0, hi0, hz0, hz1, hz2⟩ := info_parts byte_info
  go_enter Tryz.func150, Tryz.ntmps150
  go_wp2_with (at_builtin; refine wpList_append_any _ rfl (.tmp 3) (.tmp 4) _ rfl w.heap.size 5 i0 _ 1 1 Tryz.underlying22 hi0 hz0 hz1 hz2 rfl (by omega) (.slice (some ⟨w.heap.size, 0, none⟩) 0 0) 0 [] rfl (World.ownsRow_made w #[] 0 (Nat.le_refl _) (by unfold maxLen; omega) rfl) B A n c (u8c l) rfl (hr.alloc hB _) (u8c_one l) (by unfold maxLen; omega) (by omega) (by simp) ?_; intro v1 w1 hown1 hg1 hat1; rw [Nat.zero_add, List.nil_append] at hown1; obtain ⟨A1, c1, rfl⟩ := own_slice hown1)
  have hb1 := ((Below.refl w.heap.size w).alloc (Nat.le_refl _) (.cells #[] 5)).grown hg1 (by simp) (fun k hk => by simp [Value.ownBlock] at hk; omega)
  refine (rsum_any A n c l B w1 (hr.below (hb1.mono hB)) (by have := hb1.size; omega) (by omega)).mono ?_
  rintro e w2 ⟨rfl, hb2⟩
  have hb2' := hb1.trans (hb2.mono hb1.size)
  have hown2 := own_below hown1 hb2
  clear hg1 hat1
  go_wp2_with fail
  refine (rword_any _ w2).mono ?_
  rintro e w3 ⟨v3, rfl, hown3, hb3⟩
  obtain ⟨A3, c3, rfl⟩ := own_slice hown3
  have hb3' := hb2'.trans (hb3.mono hb2'.size)
  have hown4 := own_below hown2 hb3
  have hlt4 := hown4.lt
  go_wp2_with (at_builtin; refine wpList_append_any _ rfl (.tmp 5) (.tmp 8) _ rfl w.heap.size 5 i0 _ 1 1 Tryz.underlying22 hi0 hz0 hz1 hz2 rfl (by omega) (.slice A1 n c1) n (u8c l) rfl hown4 w3.heap.size A3 4 c3 (u8c (wordOf (crcOf 0#32 l))) rfl (Reads.of_own hown3) (u8c_one _) (by unfold maxLen; omega) (by omega) hb3'.size ?_; intro v5 w5 hown5 hg5 hat5)
  go_ret
  refine ⟨_, rfl, ?_, hb3'.grown hg5 hb3'.size (fun k hk => (hlt4 k hk).1)⟩
  unfold sealM; rw [u8c_append]; exact hown5
theorem four_of {l : List UInt8} {n : Nat} (h : l.length = n + 4) : ∃ p a b c d, l = p ++ [a, b, c, d] ∧ p.length = n := by
  refine ⟨l.take n, (l.drop n).getD 0 0, (l.drop n).getD 1 0, (l.drop n).getD 2 0, (l.drop n).getD 3 0, ?_, by simp [h]⟩
  have hd : (l.drop n).length = 4 := by simp [h]
  match hq : l.drop n, hd with
  | [a, b, c, d], _ =>
    have := List.take_append_drop n l
    rw [hq] at this
    simpa using this.symm
theorem Reads.tail {w : World} {B : Nat} {ad : Addr} {n : Nat} {p q : List UInt8} (hp : p.length = n) (h : Reads w B 1 (some ad) (n + q.length) (u8c (p ++ q))) : Reads w B 1 (some (ad.add n)) q.length (u8c q) := by
  refine ⟨by simp [u8c], fun hm => ?_⟩
  obtain ⟨ad', e, hb, hc⟩ := h.2 (by omega)
  injection e with e
  subst e
  refine ⟨_, rfl, by rw [block_of_add]; exact hb, fun j u hu => ?_⟩
  rw [add_of_add]
  apply hc
  rw [u8c_append, List.getElem?_append_right (by rw [u8c_length]; omega), u8c_length, hp, Nat.add_sub_cancel_left]
  exact hu
theorem Reads.head {w : World} {B : Nat} {A : Option Addr} {n m : Nat} {p q : List UInt8} (hp : p.length = n) (h : Reads w B 1 A m (u8c (p ++ q))) (hnm : n ≤ m) : Reads w B 1 A n (u8c p) := by
  refine ⟨by simp [u8c, hp], fun hn => ?_⟩
  obtain ⟨ad', e, hb, hc⟩ := h.2 (by omega)
  refine ⟨ad', e, hb, fun j u hu => ?_⟩
  apply hc
  rw [u8c_append, List.getElem?_append_left (List.getElem?_eq_some_iff.1 hu).1]
  exact hu
theorem cut_tail (ad : Addr) (n m c : Nat) (h : n ≤ m) (hc : ¬ c = n) (W : World) : (Instr.slice 22 (.slice (some ad) m c) (some (.int .i64 (n : Int))) none none).run Tryz.prog W = .ok (.slice (some (ad.add n)) (m - n) (c - n)) W := by
  rw [run_slice_l (P := Tryz.prog) (w := W) 22 _ _ _ (by kernel_rfl) .i64 n (by omega) (by omega)]
  have hs : (sizeOf ((Tryz.prog).elem 22)).run Tryz.prog W = .ok 1 W := by kernel_rfl
  rw [hs]
  simp [Result.andThen, sliced, hc]
theorem cut_head (ad : Addr) (n m c : Nat) (h : n ≤ c) (W : World) : (Instr.slice 22 (.slice (some ad) m c) none (some (.int .i64 (n : Int))) none).run Tryz.prog W = .ok (.slice (some ad) n c) W := by
  rw [run_slice_h (P := Tryz.prog) (w := W) 22 _ _ _ (by kernel_rfl) .i64 n (by omega) (by omega)]
  have hs : (sizeOf ((Tryz.prog).elem 22)).run Tryz.prog W = .ok 1 W := by kernel_rfl
  rw [hs]
  simp [Result.andThen, sliced, Addr.add]
theorem rvalid_any (ad : Addr) (N n c : Nat) (p : List UInt8) (a b c' d : UInt8) (B : Nat) (w : World) (hN : N = n + 4) (hp : p.length = n) (hr : Reads w B 1 (some ad) N (u8c (p ++ [a, b, c', d]))) (hB : B ≤ w.heap.size) (hc : N ≤ c) (hn : n ≤ 1000) :
    Calls Tryz.prog 92 #[.slice (some ad) N c] w fun e w' => e = .returned (.bool (crcOf 0#32 (p ++ [a, b, c', d]) == 0#32)) ∧ Below w.heap.size w w' := by
  have hv := crc_valid p a b c' d
  have h4 : (4 : Int) ≤ (N : Int) := by omega
  have hx1 := fun W => cut_tail ad n N c (by omega) (by omega) W
  rw [show N - n = 4 by omega] at hx1
  have hx2 := fun W => cut_head ad n N c (by omega) W
  have hw1 : IntKind.i64.wrap ((N : Int) - 4) = (n : Int) := by rw [IntWalk.i64_in _ (by omega)]; omega
  rw [hN] at hr
  have Hr := Lib.hid hr.drew
  have Hp := Lib.hid hp
  have Hv := Lib.hid hv
  have Hn := Lib.hid hn
  have HB := Lib.hid hB
  have HN := Lib.hid hN
  clear hr hp hv hn hN hB hc
  go_enter Tryz.func92, Tryz.ntmps92
  go_wp2_with fail
  go_region_held (fun w' => (convert 22 9 (.slice (some (ad.add n)) 4 (c - n))).run Tryz.prog w' = .ok (.string ⟨[a, b, c', d].toArray⟩) w') (with_reducible (first | exact conv_reads (Reads.tail Hp.out Hr.out))) (first
    | (go_at_call 115; refine (rsum_any _ n c p B _ (Reads.head Hp.out Hr.out (by omega)) HB.out (by have := Hn.out; omega)).mono ?_; rintro e W1 ⟨rfl, hb1⟩; have Hr1 := Lib.hid (Hr.out.below (hb1.mono HB.out)); clear Hr; have Hr := Hr1; clear Hr1)
    | (go_at_call 114; refine (rword_any _ _).mono ?_; rintro e W2 ⟨v, rfl, hown, hb2⟩; have hs1 := hb1.size; have hs2 : B ≤ W1.heap.size := Nat.le_trans HB.out hs1; have Hr2 := Lib.hid (Hr.out.below (hb2.mono hs2)); clear Hr; have Hr := Hr2; clear Hr2; obtain ⟨A3, c3, hv3⟩ := own_slice hown; subst hv3; have hcv := conv_reads (c := c3) (Reads.of_own hown)))
  all_goals
    go_wp2_with fail
    go_ret
    refine ⟨?_, ((Below.refl w.heap.size w).drew.trans hb1).trans (hb2.mono (show w.heap.size ≤ W1.heap.size from hs1))⟩
    have e : ([a, b, c', d] == wordOf (crcOf 0#32 p)) = (crcOf 0#32 (p ++ [a, b, c', d]) == 0#32) := by
      rw [Bool.eq_iff_iff]
      simp only [beq_iff_eq]
      exact Hv.out.symm
    exact congrArg (fun x => Ending.returned (Value.bool x)) e
end Go.Proofs.YtdiogamcjihejaaGreat
