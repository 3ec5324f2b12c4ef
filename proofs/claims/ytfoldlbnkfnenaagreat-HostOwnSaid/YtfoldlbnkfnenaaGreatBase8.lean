/- The base of the laws of the host, part 8: contracts and plain lemmas, no statement. -/
import Derived.Test.YtfoldlbnkfnenaaGreatBase7
import Derived.Deep.RegionHeld3
/- The reference's check (parapetref02): Word, Sum, Seal, Valid. -/
namespace Go.Proofs.YtfoldlbnkfnenaaGreat
open Go.RowKit
set_option maxHeartbeats 4000000
set_option maxRecDepth 100000

theorem rword_any (s : BitVec 32) (w : World) : Calls Tryz.prog 84 #[u32v s] w fun e w' => ∃ v, e = .returned v ∧ w'.ownsRow w.heap.size 5 1 v 4 (u8c (wordOf s)) ∧ Below w.heap.size w w' := by
  have hown : (w.alloc (.cells #[Value.int .u8 ((s.toNat : Int) / 16777216), .int .u8 ((s.toNat : Int) / 65536 % 256), .int .u8 ((s.toNat : Int) / 256 % 256), .int .u8 ((s.toNat : Int) % 256)] 5)).ownsRow w.heap.size 5 1 (.slice (some ⟨w.heap.size, 0, none⟩) 4 4) 4 (u8c (wordOf s)) := by
    have := own_full w #[Value.int .u8 ((s.toNat : Int) / 16777216), .int .u8 ((s.toNat : Int) / 65536 % 256), .int .u8 ((s.toNat : Int) / 256 % 256), .int .u8 ((s.toNat : Int) % 256)] 5 w.heap.size (Nat.le_refl _) (by simp [maxLen])
    rw [word_cells] at this ⊢
    simpa [u8c, wordOf] using this
  go_enter Tryz.func84, Tryz.ntmps84
  go_wp2_with fail
  go_ret
  exact ⟨_, rfl, by simpa using hown, (Below.refl _ _).alloc (Nat.le_refl _) _⟩
theorem rsum_any (A : Option Addr) (n c : Nat) (l : List UInt8) (B : Nat) (w : World) (hr : Reads w B 1 A n (u8c l)) (hB : B ≤ w.heap.size) (hn : n < 900000) :
    Calls Tryz.prog 85 #[.slice A n c] w fun e w' => e = .returned (u32v (crcOf 0#32 l)) ∧ Below w.heap.size w w' := by
  obtain ⟨i0, hi0, hz0, hz1, hz2⟩ := info_parts byte_info
  have hmk := fun w => run_room (t := 22) (z := .int .u8 0) Tryz.underlying22 byte_info rfl (n + 4) (by omega) w
  rw [show ((n + 4 : Nat) : Int) = (n : Int) + 4 by simp] at hmk
  have hown0 := own_room w (.int .u8 0) 5 (n + 4) (by omega)
  have hb0 : Below w.heap.size w (w.alloc (.cells (madeCells #[.int .u8 0] (n + 4)) 5)) := (Below.refl _ _).alloc (Nat.le_refl _) _
  have hwr := fun (x : BitVec 32) => (show IntKind.u32.wrap (x.toNat : Int) = (x.toNat : Int) from IntWalk.u32_in _ (by have := x.isLt; omega))
  have hzr : ∀ (W : World), Reads (W.alloc (.cells #[Value.int .u8 0, .int .u8 0, .int .u8 0, .int .u8 0] 5)) (W.heap.size + 1) 1 (some ⟨W.heap.size, 0, none⟩) 4 (u8c [0, 0, 0, 0]) := fun W => Reads.of_blk (Blk.new W _ _) (by omega) rfl
  go_enter Tryz.func85, Tryz.ntmps85
  go_wp2_with (first
    | (at_builtin; refine wpList_append_any _ rfl (.tmp 9) (.tmp 10) _ rfl w.heap.size 5 i0 _ 1 1 Tryz.underlying22 hi0 hz0 hz1 hz2 rfl (by omega) (.slice (some ⟨w.heap.size, 0, none⟩) 0 (n + 4)) 0 [] rfl hown0 B A n c (u8c l) rfl (hr.alloc hB _) (u8c_one l) (by unfold maxLen; omega) (by omega) (by simp) ?_; intro v1 w1 hown1 hg1 hat1; rw [Nat.zero_add, List.nil_append] at hown1; obtain ⟨A1, c1, rfl⟩ := own_slice hown1; have hb1 := hb0.grown hg1 (by simp) (fun k hk => by simp [Value.ownBlock] at hk; omega); have hlt1 := hown1.lt)
    | (at_builtin; refine wpList_append_any _ rfl (.tmp 11) (.tmp 12) _ rfl w.heap.size 5 i0 _ 1 1 Tryz.underlying22 hi0 hz0 hz1 hz2 rfl (by omega) (.slice A1 n c1) n (u8c l) rfl (hown1.alloc _) (w1.heap.size + 1) (some ⟨w1.heap.size, 0, none⟩) 4 4 (u8c [0, 0, 0, 0]) rfl (hzr _) (u8c_one _) (by unfold maxLen; omega) (by omega) (by have := hb1.size; simp; omega) ?_; intro v2 w2 hown2 hg2 hat2; obtain ⟨A2, c2, rfl⟩ := own_slice hown2; have hb2 := (hb1.alloc hb1.size _).grown hg2 (by have := hb1.size; simp; omega) (fun k hk => (hlt1 k hk).1)))
  clear hmk hown0 hb0 hg1 hg2 hat1 hat2 hown1 hb1 hlt1 hzr
  refine (refOf_any A2 (n + 4) c2 (l ++ [0, 0, 0, 0]) w2.heap.size w2 (by rw [u8c_append]; exact Reads.of_own hown2) (Nat.le_refl _) (by omega)).mono ?_
  rintro e w3 ⟨rfl, hb3⟩
  rw [crc_same]
  have hb4 := hb2.trans (hb3.mono hb2.size)
  go_wp2_with fail
  go_ret
  exact ⟨rfl, hb4⟩
/-- string(b) of bytes that read as l. -/
theorem conv_reads {w : World} {B n c : Nat} {A : Option Addr} {l : List UInt8} (hr : Reads w B 1 A n (u8c l)) : (convert 22 9 (.slice A n c)).run Tryz.prog w = .ok (.string ⟨l.toArray⟩) w := by
  have hl : l.length = n := by have := hr.1; simpa [u8c] using this
  cases A with
  | none =>
    have h0 : n = 0 := by
      rcases Nat.eq_zero_or_pos n with h | h
      · exact h
      · obtain ⟨ad, h, _⟩ := hr.2 h; cases h
    subst h0
    obtain rfl : l = [] := List.eq_nil_of_length_eq_zero hl
    exact run_convert_bytes_nil w 22 5 Tryz.underlying22 Tryz.underlying5 0 c 9 Tryz.underlying9
  | some ad =>
    have hload : (loadCells ad n).run Tryz.prog w = .ok ((l.map fun c => (c.toNat : Int)).map (Value.int .u8)).toArray w := by
      have := run_loadCells_list (P := Tryz.prog) w ad (u8c l) (fun j v hj => by
        have hjl : j < n := by
          have := (List.getElem?_eq_some_iff.1 hj).1
          rw [u8c_length, hl] at this
          exact this
        obtain ⟨ad', e, _, hc⟩ := hr.2 (by omega)
        injection e with e
        subst e
        exact hc j v hj)
      rw [u8c_length, hl] at this
      rw [this]
      simp [u8c]
    rw [run_convert_bytes_string w _ _ _ _ n c Tryz.underlying22 Tryz.underlying5 Tryz.underlying9, run_bytesToString w ad n c _ hload, foldl_push_bytes]
    have e : ∀ l : List UInt8, List.map ((fun n : Int => UInt8.ofNat n.toNat) ∘ fun c : UInt8 => (c.toNat : Int)) l = l := fun l => by
      induction l with
      | nil => rfl
      | cons x l ih => rw [List.map_cons, ih]; simp
    simp [ByteArray.empty, ByteArray.emptyWithCapacity]
    exact e l
theorem rseal_any (A : Option Addr) (n c : Nat) (l : List UInt8) (B : Nat) (w : World) (hr : Reads w B 1 A n (u8c l)) (hB : B ≤ w.heap.size) (hn : n ≤ 100000) :
    Calls Tryz.prog 104 #[.slice A n c] w fun e w' => ∃ v, e = .returned v ∧ w'.ownsRow w.heap.size 5 1 v (n + 4) (u8c (sealM l)) ∧ Below w.heap.size w w' := by
  obtain ⟨i0, hi0, hz0, hz1, hz2⟩ := info_parts byte_info
  go_enter Tryz.func104, Tryz.ntmps104
  go_wp2_with (at_builtin; refine wpList_append_any _ rfl (.tmp 3) (.tmp 4) _ rfl w.heap.size 5 i0 _ 1 1 Tryz.underlying22 hi0 hz0 hz1 hz2 rfl (by omega) (.slice (some ⟨w.heap.size, 0, none⟩) 0 0) 0 [] rfl (World.ownsRow_made w #[] 0 (Nat.le_refl _) (by unfold maxLen; omega) rfl) B A n c (u8c l) rfl (hr.alloc hB _) (u8c_one l) (by unfold maxLen; omega) (by omega) (by simp) ?_; intro v1 w1 hown1 hg1 hat1; rw [Nat.zero_add, List.nil_append] at hown1; obtain ⟨A1, c1, rfl⟩ := own_slice hown1)
  have hb1 := ((Below.refl w.heap.size w).alloc (Nat.le_refl _) (.cells #[] 5)).grown hg1 (by simp) (fun k hk => by simp [Value.ownBlock] at hk; omega)
  refine (rsum_any A n c l B w1 (hr.below (hb1.mono hB)) (by have := hb1.size; omega) (by omega)).mono ?_
  rintro e w2 ⟨rfl, hb2⟩
  have hb2' := hb1.trans (hb2.mono hb1.size)
  have hown2 := own_below hown1 hb2
  clear hg1 hat1
  go_wp2_with fail
  refine (rword_any _ w2).mono ?_
  rintro e w3 ⟨v3, rfl, hown3, hb3⟩
  obtain ⟨A3, c3, rfl⟩ := own_slice hown3
  have hb3' := hb2'.trans (hb3.mono hb2'.size)
  have hown4 := own_below hown2 hb3
  have hlt4 := hown4.lt
  go_wp2_with (at_builtin; refine wpList_append_any _ rfl (.tmp 5) (.tmp 8) _ rfl w.heap.size 5 i0 _ 1 1 Tryz.underlying22 hi0 hz0 hz1 hz2 rfl (by omega) (.slice A1 n c1) n (u8c l) rfl hown4 w3.heap.size A3 4 c3 (u8c (wordOf (crcOf 0#32 l))) rfl (Reads.of_own hown3) (u8c_one _) (by unfold maxLen; omega) (by omega) hb3'.size ?_; intro v5 w5 hown5 hg5 hat5)
  go_ret
  refine ⟨_, rfl, ?_, hb3'.grown hg5 hb3'.size (fun k hk => (hlt4 k hk).1)⟩
  unfold sealM; rw [u8c_append]; exact hown5
theorem four_of {l : List UInt8} {n : Nat} (h : l.length = n + 4) : ∃ p a b c d, l = p ++ [a, b, c, d] ∧ p.length = n := by
  refine ⟨l.take n, (l.drop n).getD 0 0, (l.drop n).getD 1 0, (l.drop n).getD 2 0, (l.drop n).getD 3 0, ?_, by simp [h]⟩
  have hd : (l.drop n).length = 4 := by simp [h]
  match hq : l.drop n, hd with
  | [a, b, c, d], _ =>
    have := List.take_append_drop n l
    rw [hq] at this
    simpa using this.symm
theorem Reads.tail {w : World} {B : Nat} {ad : Addr} {n : Nat} {p q : List UInt8} (hp : p.length = n) (h : Reads w B 1 (some ad) (n + q.length) (u8c (p ++ q))) : Reads w B 1 (some (ad.add n)) q.length (u8c q) := by
  refine ⟨by simp [u8c], fun hm => ?_⟩
  obtain ⟨ad', e, hb, hc⟩ := h.2 (by omega)
  injection e with e
  subst e
  refine ⟨_, rfl, by rw [block_of_add]; exact hb, fun j u hu => ?_⟩
  rw [add_of_add]
  apply hc
  rw [u8c_append, List.getElem?_append_right (by rw [u8c_length]; omega), u8c_length, hp, Nat.add_sub_cancel_left]
  exact hu
theorem Reads.head {w : World} {B : Nat} {A : Option Addr} {n m : Nat} {p q : List UInt8} (hp : p.length = n) (h : Reads w B 1 A m (u8c (p ++ q))) (hnm : n ≤ m) : Reads w B 1 A n (u8c p) := by
  refine ⟨by simp [u8c, hp], fun hn => ?_⟩
  obtain ⟨ad', e, hb, hc⟩ := h.2 (by omega)
  refine ⟨ad', e, hb, fun j u hu => ?_⟩
  apply hc
  rw [u8c_append, List.getElem?_append_left (List.getElem?_eq_some_iff.1 hu).1]
  exact hu
theorem cut_tail (ad : Addr) (n m c : Nat) (h : n ≤ m) (hc : ¬ c = n) (W : World) : (Instr.slice 22 (.slice (some ad) m c) (some (.int .i64 (n : Int))) none none).run Tryz.prog W = .ok (.slice (some (ad.add n)) (m - n) (c - n)) W := by
  rw [run_slice_l (P := Tryz.prog) (w := W) 22 _ _ _ (by kernel_rfl) .i64 n (by omega) (by omega)]
  have hs : (sizeOf ((Tryz.prog).elem 22)).run Tryz.prog W = .ok 1 W := by kernel_rfl
  rw [hs]
  simp [Result.andThen, sliced, hc]
theorem cut_head (ad : Addr) (n m c : Nat) (h : n ≤ c) (W : World) : (Instr.slice 22 (.slice (some ad) m c) none (some (.int .i64 (n : Int))) none).run Tryz.prog W = .ok (.slice (some ad) n c) W := by
  rw [run_slice_h (P := Tryz.prog) (w := W) 22 _ _ _ (by kernel_rfl) .i64 n (by omega) (by omega)]
  have hs : (sizeOf ((Tryz.prog).elem 22)).run Tryz.prog W = .ok 1 W := by kernel_rfl
  rw [hs]
  simp [Result.andThen, sliced, Addr.add]
theorem rvalid_any (ad : Addr) (N n c : Nat) (p : List UInt8) (a b c' d : UInt8) (B : Nat) (w : World) (hN : N = n + 4) (hp : p.length = n) (hr : Reads w B 1 (some ad) N (u8c (p ++ [a, b, c', d]))) (hB : B ≤ w.heap.size) (hc : N ≤ c) (hn : n ≤ 1000) :
    Calls Tryz.prog 61 #[.slice (some ad) N c] w fun e w' => e = .returned (.bool (crcOf 0#32 (p ++ [a, b, c', d]) == 0#32)) ∧ Below w.heap.size w w' := by
  have hv := crc_valid p a b c' d
  have h4 : (4 : Int) ≤ (N : Int) := by omega
  have hx1 := fun W => cut_tail ad n N c (by omega) (by omega) W
  rw [show N - n = 4 by omega] at hx1
  have hx2 := fun W => cut_head ad n N c (by omega) W
  have hw1 : IntKind.i64.wrap ((N : Int) - 4) = (n : Int) := by rw [IntWalk.i64_in _ (by omega)]; omega
  rw [hN] at hr
  have Hr := Lib.hid hr.drew
  have Hp := Lib.hid hp
  have Hv := Lib.hid hv
  have Hn := Lib.hid hn
  have HB := Lib.hid hB
  have HN := Lib.hid hN
  clear hr hp hv hn hN hB hc
  go_enter Tryz.func61, Tryz.ntmps61
  go_wp2_with fail
  go_region_held (fun w' => (convert 22 9 (.slice (some (ad.add n)) 4 (c - n))).run Tryz.prog w' = .ok (.string ⟨[a, b, c', d].toArray⟩) w') (with_reducible (first | exact conv_reads (Reads.tail Hp.out Hr.out))) (first
    | (go_at_call 85; refine (rsum_any _ n c p B _ (Reads.head Hp.out Hr.out (by omega)) HB.out (by have := Hn.out; omega)).mono ?_; rintro e W1 ⟨rfl, hb1⟩; have Hr1 := Lib.hid (Hr.out.below (hb1.mono HB.out)); clear Hr; have Hr := Hr1; clear Hr1)
    | (go_at_call 84; refine (rword_any _ _).mono ?_; rintro e W2 ⟨v, rfl, hown, hb2⟩; have hs1 := hb1.size; have hs2 : B ≤ W1.heap.size := Nat.le_trans HB.out hs1; have Hr2 := Lib.hid (Hr.out.below (hb2.mono hs2)); clear Hr; have Hr := Hr2; clear Hr2; obtain ⟨A3, c3, hv3⟩ := own_slice hown; subst hv3; have hcv := conv_reads (c := c3) (Reads.of_own hown)))
  all_goals
    go_wp2_with fail
    go_ret
    refine ⟨?_, ((Below.refl w.heap.size w).drew.trans hb1).trans (hb2.mono (show w.heap.size ≤ W1.heap.size from hs1))⟩
    have e : ([a, b, c', d] == wordOf (crcOf 0#32 p)) = (crcOf 0#32 (p ++ [a, b, c', d]) == 0#32) := by
      rw [Bool.eq_iff_iff]
      simp only [beq_iff_eq]
      exact Hv.out.symm
    exact congrArg (fun x => Ending.returned (Value.bool x)) e
end Go.Proofs.YtfoldlbnkfnenaaGreat
/- The reference's units (parapetref04): Word, Host, Device, data, Lawful. -/
namespace Go.Proofs.YtfoldlbnkfnenaaGreat
open Go.RowKit
set_option maxHeartbeats 4000000
set_option maxRecDepth 100000

theorem r4word_any (ad : Addr) (n c : Nat) (b0 b1 b2 b3 : UInt8) (w : World) (hn : 4 ≤ n) (h0 : w.cell? (ad.add 0) = some (.int .u8 (b0.toNat : Int))) (h1 : w.cell? (ad.add 1) = some (.int .u8 (b1.toNat : Int)))
    (h2 : w.cell? (ad.add 2) = some (.int .u8 (b2.toNat : Int))) (h3 : w.cell? (ad.add 3) = some (.int .u8 (b3.toNat : Int))) :
    Calls Tryz.prog 62 #[.slice (some ad) n c] w fun e w' => e = .returned (u32v (ofWord b0 b1 b2 b3)) ∧ ∃ k, w' = w.drewN k := by
  have g0 : (0 : Int) < n := by omega
  have g1 : (1 : Int) < n := by omega
  have g2 : (2 : Int) < n := by omega
  have g3 : (3 : Int) < n := by omega
  rw [show ad.add 0 = ad from rfl] at h0
  rw [show ad.add 1 = ⟨ad.block, ad.off + 1, none⟩ from rfl] at h1
  rw [show ad.add 2 = ⟨ad.block, ad.off + 2, none⟩ from rfl] at h2
  rw [show ad.add 3 = ⟨ad.block, ad.off + 3, none⟩ from rfl] at h3
  go_enter Tryz.func62, Tryz.ntmps62
  go_wp2_with fail
  go_big_quiet (fail)
  go_wp2_with fail
  go_ret
  refine ⟨?_, _, rfl⟩
  exact congrArg (fun x => Ending.returned (Value.int .u32 x)) (get_word b0 b1 b2 b3)
theorem r4host_any (k : Int) (w : World) : Calls Tryz.prog 102 #[.int .i64 k] w fun e w' => e = .returned (.bool (isHost k)) ∧ w' = w := by
  by_cases h1 : 1 ≤ k
  · go_enter Tryz.func102, Tryz.ntmps102
    go_wp2_with fail
    go_ret
    exact ⟨by simp [isHost, h1], rfl⟩
  · go_enter Tryz.func102, Tryz.ntmps102
    go_wp2_with fail
    go_ret
    exact ⟨by simp [isHost]; omega, rfl⟩
theorem r4device_any (k : Int) (w : World) : Calls Tryz.prog 51 #[.int .i64 k] w fun e w' => e = .returned (.bool (isDev k)) ∧ w' = w := by
  by_cases h1 : 17 ≤ k
  · go_enter Tryz.func51, Tryz.ntmps51
    go_wp2_with fail
    go_ret
    exact ⟨by simp [isDev, h1], rfl⟩
  · go_enter Tryz.func51, Tryz.ntmps51
    go_wp2_with fail
    go_ret
    exact ⟨by simp [isDev]; omega, rfl⟩
theorem r4data_any (k : Int) (n : Nat) (w : World) : Calls Tryz.prog 103 #[.int .i64 k, .int .i64 (n : Int)] w fun e w' => e = .returned (.bool (dataOk k n)) ∧ w' = w := by
  have e4 : ((n : Int) == 4) = (n == 4) := by rw [Bool.eq_iff_iff]; simp; omega
  have e0 : ((n : Int) == 0) = (n == 0) := by rw [Bool.eq_iff_iff]; simp
  by_cases h1 : k = 1 ∨ k = 2 ∨ k = 17
  · have e : dataOk k n = (n == 4) := by unfold dataOk; rw [if_pos h1]
    rw [e, ← e4]
    clear e e4 e0
    rcases h1 with rfl | rfl | rfl
    all_goals
      go_enter Tryz.func103, Tryz.ntmps103
      go_wp2_with fail
      go_ret
      exact ⟨rfl, rfl⟩
  by_cases h2 : k = 4 ∨ k = 20
  · have e : dataOk k n = decide (1 ≤ n ∧ n ≤ 8) := by unfold dataOk; rw [if_neg h1, if_pos h2]
    rw [e]
    clear e e4 e0
    rcases h2 with rfl | rfl
    all_goals
      by_cases h3 : 1 ≤ (n : Int)
      · go_enter Tryz.func103, Tryz.ntmps103
        go_wp2_with fail
        go_ret
        refine ⟨?_, rfl⟩
        have h4 : 1 ≤ n := by omega
        refine congrArg (fun x => Ending.returned (Value.bool x)) ?_
        rw [Bool.eq_iff_iff]
        simp [h4]
        try omega
      · go_enter Tryz.func103, Tryz.ntmps103
        go_wp2_with fail
        go_ret
        refine ⟨?_, rfl⟩
        have h4 : ¬ 1 ≤ n := by omega
        simp [h4]
  · have e : dataOk k n = (n == 0) := by unfold dataOk; rw [if_neg h1, if_neg h2]
    rw [e, ← e0]
    simp only [not_or] at h1 h2
    have g1 : (k == 1) = false := by simpa using h1.1
    have g2 : (k == 2) = false := by simpa using h1.2.1
    have g3 : (k == 17) = false := by simpa using h1.2.2
    have g4 : (k == 4) = false := by simpa using h2.1
    have g5 : (k == 20) = false := by simpa using h2.2
    clear e e4 e0 h1 h2
    go_enter Tryz.func103, Tryz.ntmps103
    go_wp2_with fail
    go_ret
    exact ⟨rfl, rfl⟩
theorem r4lawful_any (u : UnitM) (A : Option Addr) (c : Nat) (w : World) (hs : 0 ≤ u.session) (hn : 0 ≤ u.number) :
    Calls Tryz.prog 63 #[unitVal u (.slice A u.data.length c)] w fun e w' => e = .returned (.int .i64 u.lawful) ∧ Below w.heap.size w w' := by
  obtain ⟨kind, code, session, number, flags, data⟩ := u
  unfold unitVal
  simp only at *
  have hb : ∀ cs t, Below w.heap.size w (w.alloc (.cells cs t)) := fun cs t => (Below.refl _ _).alloc (Nat.le_refl _) _
  have hh := r4host_any kind
  have hd := r4device_any kind
  have hda := r4data_any kind data.length
  obtain ⟨law, Hlaw⟩ : ∃ x, Hid (x = (UnitM.mk kind code session number flags data).lawful) := ⟨_, Lib.hid rfl⟩
  rw [← Hlaw.out]
  by_cases hk : kind = 1 ∨ kind = 2 ∨ kind = 17 ∨ kind = 3 ∨ kind = 18 ∨ kind = 19 ∨ kind = 4 ∨ kind = 20 ∨ kind = 5 ∨ kind = 21 ∨ kind = 22
  · rcases hk with rfl | rfl | rfl | rfl | rfl | rfl | rfl | rfl | rfl | rfl | rfl
    all_goals
      go_enter Tryz.func63, Tryz.ntmps63
      go_wp2_with (first
        | (go_at_call 102; refine (hh _).mono ?_; rintro e w1 ⟨rfl, rfl⟩)
        | (go_at_call 51; refine (hd _).mono ?_; rintro e w1 ⟨rfl, rfl⟩)
        | (go_at_call 103; refine (hda _).mono ?_; rintro e w1 ⟨rfl, rfl⟩))
      all_goals
        go_ret
        refine ⟨?_, hb _ _⟩
        clear hh hd hda hb
        rw [Hlaw.out]
        clear Hlaw
        refine congrArg (fun x => Ending.returned (Value.int .i64 x)) ?_
        simp_all [UnitM.lawful, isHost, isDev, sessOk, numOk, flagOk]
        try omega
  · have e : (UnitM.mk kind code session number flags data).lawful = 43 := by
      have h1 : isHost kind = false := by simp [isHost]; omega
      have h2 : isDev kind = false := by simp [isDev]; omega
      simp [UnitM.lawful, h1, h2]
    have h1 : isHost kind = false := by simp [isHost]; omega
    have h2 : isDev kind = false := by simp [isDev]; omega
    rw [h1] at hh
    rw [h2] at hd
    rw [e] at Hlaw
    have hl := Hlaw.out
    subst hl
    simp only [not_or] at hk
    obtain ⟨n1, n2, n3, n4, n5, n6, n7, n8, n9, n10, n11⟩ := hk
    have g4 : (kind == 4) = false := by simpa using n7
    have g20 : (kind == 20) = false := by simpa using n8
    have g5 : (kind == 5) = false := by simpa using n9
    have g21 : (kind == 21) = false := by simpa using n10
    clear n1 n2 n3 n4 n5 n6 n7 n8 n9 n10 n11 e hda Hlaw
    go_enter Tryz.func63, Tryz.ntmps63
    go_wp2_with (first
      | (go_at_call 102; refine (hh _).mono ?_; rintro e w1 ⟨rfl, rfl⟩)
      | (go_at_call 51; refine (hd _).mono ?_; rintro e w1 ⟨rfl, rfl⟩))
    go_ret
    exact ⟨rfl, hb _ _⟩
end Go.Proofs.YtfoldlbnkfnenaaGreat
/- The reference's Encode (parapetref04). -/
namespace Go.Proofs.YtfoldlbnkfnenaaGreat
open Go.RowKit
set_option maxHeartbeats 10000000
set_option maxRecDepth 100000

theorem r4encode_any (u : UnitM) (A : Option Addr) (c B : Nat) (w : World) (ho : u.Ok) (hr : Reads w B 1 A u.data.length (u8c u.data)) (hB : B ≤ w.heap.size) :
    Calls Tryz.prog 64 #[unitVal u (.slice A u.data.length c)] w fun e w' => ∃ v, e = .returned (.tuple #[v, .int .i64 u.lawful]) ∧ w'.ownsRow w.heap.size 5 1 v u.encode.length (u8c u.encode) ∧ Below w.heap.size w w' := by
  obtain ⟨i0, hi0, hz0, hz1, hz2⟩ := info_parts byte_info
  have hlaw := fun w => r4lawful_any u A c w ho.session.1 ho.number.1
  have hlen := @UnitM.lawful_len u
  obtain ⟨code, hcode⟩ := word_ex ho.code
  obtain ⟨session, hsession⟩ := word_ex ho.session
  obtain ⟨number, hnumber⟩ := word_ex ho.number
  have henc : u.encode = if u.lawful = 0 then sealM (([byteOf u.kind] ++ wordOf code ++ wordOf session ++ wordOf number ++ [byteOf u.flags, byteOf u.data.length]) ++ u.data) else [] := by
    unfold UnitM.encode UnitM.body
    rw [hcode, hsession, hnumber, wordBytes_nat, wordBytes_nat, wordBytes_nat]
  obtain ⟨enc, he⟩ : ∃ enc, enc = u.encode := ⟨_, rfl⟩
  rw [← he]
  rw [← he] at henc
  clear he
  generalize u.lawful = law at *
  obtain ⟨kind, code', session', number', flags, data⟩ := u
  simp only at *
  subst hcode hsession hnumber
  unfold unitVal at *
  simp only at *
  have Henc := Lib.hid henc
  clear henc ho
  go_enter Tryz.func64, Tryz.ntmps64
  go_wp2_with fail
  refine (hlaw _).mono ?_
  rintro e w1 ⟨rfl, hb1⟩
  have hb1' : Below w.heap.size w w1 := ((Below.refl _ _).alloc (Nat.le_refl _) _).trans (hb1.mono (by simp))
  by_cases hl : law = 0
  · subst hl
    have hd8 := hlen rfl
    have hB1 := (Blk.new w 60 #[Value.int .i64 kind, u32v code, u32v session, u32v number, .int .i64 flags, .slice A data.length c]).below hb1 (by simp)
    clear hb1 hlen hlaw
    have hc1 : ∀ i, w1.cell? ⟨w.heap.size, i, none⟩ = (#[Value.int .i64 kind, u32v code, u32v session, u32v number, .int .i64 flags, .slice A data.length c] : Array Value)[i]? := hB1.cell
    have hr1 := hr.below (hb1'.mono hB)
    have hn1 := hb1'.size
    have hlt1 := hB1.lt
    have hBl : B ≤ w1.heap.size := by omega
    have hkind : (u8c [byteOf kind]).toArray = #[Value.int .u8 (kind % 256)] := by simp [u8c, byteOf_val]
    have hown : (w1.alloc (.cells #[Value.int .u8 (kind % 256)] 5)).ownsRow w1.heap.size 5 1 (.slice (some ⟨w1.heap.size, 0, none⟩) 1 1) 1 (u8c [byteOf kind]) := by
      have := own_full w1 #[Value.int .u8 (kind % 256)] 5 w1.heap.size (Nat.le_refl _) (by simp [maxLen])
      rw [← hkind] at this ⊢
      exact this
    have hbW : Below w.heap.size w (w1.alloc (.cells #[Value.int .u8 (kind % 256)] 5)) := hb1'.alloc hn1 _
    have hsz : w1.heap.size ≤ (w1.alloc (.cells #[Value.int .u8 (kind % 256)] 5)).heap.size := by simp
    replace hB1 := hB1.alloc (.cells #[Value.int .u8 (kind % 256)] 5)
    replace hr1 := hr1.alloc hBl (.cells #[Value.int .u8 (kind % 256)] 5)
    clear hb1' hkind hr
    go_wp2_with fail
    clear hc1
    refine (rword_any code _).mono ?_
    rintro e w1a ⟨v1a, rfl, hw, hb⟩
    obtain ⟨Aw1, cw1, rfl⟩ := own_slice hw
    replace hB1 := hB1.below hb hB1.lt
    replace hr1 := hr1.below (hb.mono (Nat.le_trans hBl hsz))
    replace hbW := hbW.trans (hb.mono hbW.size)
    replace hown := own_below hown hb
    replace hsz := Nat.le_trans hsz hb.size
    have hlt1 := hown.lt
    clear hb
    go_wp2_with (at_builtin; refine wpList_append_any _ rfl (.tmp 15) (.tmp 18) _ rfl w1.heap.size 5 i0 _ 1 1 Tryz.underlying22 hi0 hz0 hz1 hz2 rfl (by omega) (.slice (some ⟨w1.heap.size, 0, none⟩) 1 1) 1 (u8c [byteOf kind]) rfl hown w1a.heap.size Aw1 4 cw1 (u8c (wordOf code)) rfl (Reads.of_own hw) (u8c_one _) (by unfold maxLen; omega) (by omega) hsz ?_; intro v1b w1b hownN hg hat; rw [← u8c_append] at hownN; simp only [Nat.reduceAdd] at hownN; obtain ⟨A1s, c1s, rfl⟩ := own_slice hownN; clear hown; have hown := hownN; clear hownN; have hBn := hB1.grown hg (fun h => by have := (hlt1 _ h).1; omega); clear hB1; have hB1 := hBn; clear hBn; have hc1 := hB1.cell; have hrn := hr1.grown hg (Nat.le_trans hBl hsz) (fun g h => by have := (hlt1 g h).1; omega); clear hr1; have hr1 := hrn; clear hrn; have hbn := hbW.grown hg hbW.size (fun g h => by have := (hlt1 g h).1; omega); clear hbW; have hbW := hbn; clear hbn; have hsn := Nat.le_trans hsz hg.size; clear hsz; have hsz := hsn; clear hsn hg hat)
    clear hc1
    refine (rword_any session _).mono ?_
    rintro e w2a ⟨v2a, rfl, hw, hb⟩
    obtain ⟨Aw2, cw2, rfl⟩ := own_slice hw
    replace hB1 := hB1.below hb hB1.lt
    replace hr1 := hr1.below (hb.mono (Nat.le_trans hBl hsz))
    replace hbW := hbW.trans (hb.mono hbW.size)
    replace hown := own_below hown hb
    replace hsz := Nat.le_trans hsz hb.size
    have hlt2 := hown.lt
    clear hb
    go_wp2_with (at_builtin; refine wpList_append_any _ rfl (.tmp 20) (.tmp 23) _ rfl w1.heap.size 5 i0 _ 1 1 Tryz.underlying22 hi0 hz0 hz1 hz2 rfl (by omega) (.slice A1s 5 c1s) 5 (u8c ([byteOf kind] ++ wordOf code)) rfl hown w2a.heap.size Aw2 4 cw2 (u8c (wordOf session)) rfl (Reads.of_own hw) (u8c_one _) (by unfold maxLen; omega) (by omega) hsz ?_; intro v2b w2b hownN hg hat; rw [← u8c_append] at hownN; simp only [Nat.reduceAdd] at hownN; obtain ⟨A2s, c2s, rfl⟩ := own_slice hownN; clear hown; have hown := hownN; clear hownN; have hBn := hB1.grown hg (fun h => by have := (hlt2 _ h).1; omega); clear hB1; have hB1 := hBn; clear hBn; have hc2 := hB1.cell; have hrn := hr1.grown hg (Nat.le_trans hBl hsz) (fun g h => by have := (hlt2 g h).1; omega); clear hr1; have hr1 := hrn; clear hrn; have hbn := hbW.grown hg hbW.size (fun g h => by have := (hlt2 g h).1; omega); clear hbW; have hbW := hbn; clear hbn; have hsn := Nat.le_trans hsz hg.size; clear hsz; have hsz := hsn; clear hsn hg hat)
    clear hc2
    refine (rword_any number _).mono ?_
    rintro e w3a ⟨v3a, rfl, hw, hb⟩
    obtain ⟨Aw3, cw3, rfl⟩ := own_slice hw
    replace hB1 := hB1.below hb hB1.lt
    replace hr1 := hr1.below (hb.mono (Nat.le_trans hBl hsz))
    replace hbW := hbW.trans (hb.mono hbW.size)
    replace hown := own_below hown hb
    replace hsz := Nat.le_trans hsz hb.size
    have hlt3 := hown.lt
    clear hb
    go_wp2_with (first
      | (at_builtin; refine wpList_append_any _ rfl (.tmp 25) (.tmp 28) _ rfl w1.heap.size 5 i0 _ 1 1 Tryz.underlying22 hi0 hz0 hz1 hz2 rfl (by omega) (.slice A2s 9 c2s) 9 (u8c ([byteOf kind] ++ wordOf code ++ wordOf session)) rfl hown w3a.heap.size Aw3 4 cw3 (u8c (wordOf number)) rfl (Reads.of_own hw) (u8c_one _) (by unfold maxLen; omega) (by omega) hsz ?_; intro v3b w3b hownN hg hat; rw [← u8c_append] at hownN; simp only [Nat.reduceAdd] at hownN; obtain ⟨A3s, c3s, rfl⟩ := own_slice hownN; clear hown; have hown := hownN; clear hownN; have hBn := hB1.grown hg (fun h => by have := (hlt3 _ h).1; omega); clear hB1; have hB1 := hBn; clear hBn; have hc3 := hB1.cell; have hrn := hr1.grown hg (Nat.le_trans hBl hsz) (fun g h => by have := (hlt3 g h).1; omega); clear hr1; have hr1 := hrn; clear hrn; have hbn := hbW.grown hg hbW.size (fun g h => by have := (hlt3 g h).1; omega); clear hbW; have hbW := hbn; clear hbn; have hsn := Nat.le_trans hsz hg.size; clear hsz; have hsz := hsn; clear hsn hg hat)
      | (at_builtin; refine wpList_append_any _ rfl (.tmp 30) (.tmp 38) _ rfl w1.heap.size 5 i0 _ 1 1 Tryz.underlying22 hi0 hz0 hz1 hz2 rfl (by omega) (.slice A3s 13 c3s) 13 (u8c ([byteOf kind] ++ wordOf code ++ wordOf session ++ wordOf number)) rfl (hown.alloc _) (w3b.heap.size + 1) (some ⟨w3b.heap.size, 0, none⟩) 2 2 (u8c [byteOf flags, byteOf data.length]) rfl (by simpa using two_reads (by omega) (Blk.new w3b 5 _)) (u8c_one _) (by unfold maxLen; omega) (by omega) (by simp; omega) ?_; intro v4 w4 hown4 hg4 hat4; have hlt3b := hown.lt; have hB4 := (hB1.alloc _).grown hg4 (fun h => by have := (hlt3b _ h).1; omega); have hc4 := hB4.cell; have hr4 := (hr1.alloc (by omega) _).grown hg4 (by simp; omega) (fun g h => by have := (hlt3b g h).1; omega); have hs4 := hg4.size; have hlt4 := hown4.lt; have hbW4 := (hbW.alloc hbW.size _).grown hg4 (by have := hbW.size; simp; omega) (fun k hk => by have := (hlt3b k hk).1; omega); rw [← u8c_append] at hown4; simp only [Nat.reduceAdd] at hown4; obtain ⟨A4, c4, rfl⟩ := own_slice hown4)
      | (at_builtin; refine wpList_append_any _ rfl (.tmp 40) (.tmp 42) _ rfl w1.heap.size 5 i0 _ 1 1 Tryz.underlying22 hi0 hz0 hz1 hz2 rfl (by omega) (.slice A4 15 c4) 15 _ rfl hown4 B A data.length c (u8c data) rfl hr4 (u8c_one _) (by unfold maxLen; omega) (by omega) (by simp at hs4; omega) ?_; intro v5 w5 hown5 hg5 hat5; have hbW5 := hbW4.grown hg5 (by simp at hs4; omega) (fun k hk => by have := (hlt4 k hk).1; omega); rw [← u8c_append] at hown5; obtain ⟨A5, c5, rfl⟩ := own_slice hown5))
    have hw5 := hbW5.size
    refine (rseal_any A5 _ c5 _ w5.heap.size w5 (Reads.of_own hown5) (Nat.le_refl _) (by omega)).mono ?_
    rintro e w6 ⟨v6, rfl, hown6, hb6⟩
    go_wp2_with fail
    refine bodyPost_ret (v := .tuple #[v6, .int .i64 0]) (by simp [results, Tryz.results64, go_sem]) rfl ⟨_, rfl, ?_, hbW5.trans (hb6.mono hw5)⟩
    rw [Henc.out, if_pos trivial]
    have hlen : (sealM ([byteOf kind] ++ wordOf code ++ wordOf session ++ wordOf number ++ [byteOf flags, byteOf data.length] ++ data)).length = 15 + data.length + 4 := by
      simp [sealM, wordOf]; omega
    rw [hlen]
    exact own_base hown6 hw5
  · have g1 : (law != 0) = true := by simpa using hl
    have hnil : enc = [] := by rw [Henc.out, if_neg hl]
    subst hnil
    go_wp2_with fail
    refine bodyPost_ret (v := .tuple #[.slice none 0 0, .int .i64 law]) (by simp [results, Tryz.results64, go_sem]) rfl ⟨_, rfl, World.ownsRow_nil _ _ _ _, hb1'⟩
end Go.Proofs.YtfoldlbnkfnenaaGreat
/- A host's Write, Tick, Ack, Code, Log. -/
namespace Go.Proofs.YtfoldlbnkfnenaaGreat
open Go.RowKit
set_option maxHeartbeats 10000000
set_option maxRecDepth 100000

theorem hostCode_any (B a : Nat) (m : HostM) (F : Nat → Prop) (w : World) (hH : HostIs B w a m F) : Calls Tryz.prog 37 #[.pointer (some ⟨a, 0, none⟩)] w fun e w' => e = .returned (.int .u32 m.p.code) ∧ w' = w := by
  obtain ⟨d, v, g, val, FV, FL, hH⟩ := hH
  have hc := hH.blk.cell
  unfold hostCells at hc
  go_enter Tryz.func37, Tryz.ntmps37
  go_wp2_with fail
  go_ret
  exact ⟨rfl, rfl⟩
theorem hostAck_any (B a : Nat) (m : HostM) (F : Nat → Prop) (w : World) (hH : HostIs B w a m F) : Calls Tryz.prog 35 #[.pointer (some ⟨a, 0, none⟩)] w fun e w' => e = .returned (.int .i64 m.ack.2) ∧ HostTo B w a m.ack.1 F w' := by
  obtain ⟨d, v, g, val, FV, FL, hH⟩ := hH
  have hc := hH.blk.cell
  unfold hostCells at hc
  have e1 : m.ack = ({ m with valve := m.valve.ack }, if m.valve.request then 0 else 110) := by
    unfold HostM.ack ValveM.ack
    cases m.valve.request <;> rfl
  rw [e1]
  have hack := valveAck_any v m.valve _ FV w hH.valve
  generalize (if m.valve.request then (0 : Int) else 110) = r at *
  clear e1
  go_enter Tryz.func35, Tryz.ntmps35
  go_wp2_with fail
  refine hack.mono ?_
  rintro e w1 ⟨rfl, hv1, hk1⟩
  have h1 := hH.onValve hv1 hk1 (fun x hx => hx)
  go_wp2_with fail
  go_ret
  exact ⟨rfl, hH.toIs h1 (fun x hx => hx) (hk1.mono (fun x _ hx => hH.fV x hx))⟩
theorem hostWrite_any (B a : Nat) (m : HostM) (F : Nat → Prop) (A : Option Addr) (n c Br : Nat) (l : List UInt8) (hold : Bool) (w : World) (hH : HostIs B w a m F) (hr : Reads w Br 1 A n (u8c l)) (hB : Br ≤ w.heap.size) (hA : A = none → n = 0) (ho : m.p.out ≤ 8) :
    Calls Tryz.prog 16 #[.pointer (some ⟨a, 0, none⟩), .slice A n c, .bool hold] w fun e w' => e = .returned (.int .i64 (m.write l hold).2) ∧ HostTo B w a (m.write l hold).1 F w' := by
  have h0 := hH
  obtain ⟨d, v, g, val, FV, FL, hH⟩ := hH
  have hb := hH.blk
  have hc := hb.cell
  unfold hostCells at hc
  have hl : l.length = n := by have := hr.1; simpa [u8c] using this
  by_cases he : (n : Int) = m.p.out
  · have e1 : m.write l hold = ({ m with value := l, hold := hold }, 0) := by unfold HostM.write; rw [hl, if_neg (by simpa using he)]
    rw [e1]
    have g1 : ((n : Int) != m.p.out) = false := by simpa using he
    have hn : n ≤ 1000000 := by omega
    have Hl := Lib.hid hl
    have He := Lib.hid he
    clear e1 hl he
    go_enter Tryz.func16, Tryz.ntmps16
    go_wp2_with fail
    refine (cloneByte_any A n c l Br w hA hr hB hn).mono ?_
    rintro e w1 ⟨x, rfl, hown, _, _, hb1⟩
    have h1 := hH.keepS (S := fun _ => False) (Keep.of_below hb1) (fun _ _ h => h)
    obtain ⟨Ax, cx, rfl⟩ := own_slice hown
    have hb2 := h1.blk
    clear hc
    have hc := hb2.cell
    have hf := hb2.frozen
    unfold hostCells at hc
    have hs1 := hb1.size
    have hlt := hown.lt
    have hfar : (Value.slice Ax n cx).ownBlock ≠ some a := fun e => by have := (hlt a e).1; have := (hH.fb a hH.fa).2; omega
    go_wp2_with fail
    go_ret
    have hk : Keep (fun x => x = a) w1 ((w1.setCell ⟨a, 14, none⟩ (.slice Ax n cx)).setCell ⟨a, 15, none⟩ (.bool hold)) := ((Keep.refl (fun x => x = a) w1).setCell (p := ⟨a, 14, none⟩) (fun _ => rfl) _).setCell (p := ⟨a, 15, none⟩) (fun _ => rfl) _
    have hz : ((w1.setCell ⟨a, 14, none⟩ (.slice Ax n cx)).setCell ⟨a, 15, none⟩ (.bool hold)).heap.size = w1.heap.size := by simp [World.setCell]
    have hnew : ∀ x, (Value.slice Ax n cx).ownBlock = some x → ¬ F x := fun x hx hF => by have := (hlt x hx).1; have := (hH.fb x hF).2; omega
    have h4 : HostAt B ((w1.setCell ⟨a, 14, none⟩ (.slice Ax n cx)).setCell ⟨a, 15, none⟩ (.bool hold)) a { m with value := l, hold := hold } (grow F w ((w1.setCell ⟨a, 14, none⟩ (.slice Ax n cx)).setCell ⟨a, 15, none⟩ (.bool hold))) d v g (.slice Ax n cx) FV FL := {
      blk := by simpa [hostCells] using (hb2.set_ 14 (.slice Ax n cx)).set_ 15 (.bool hold)
      dog := Blk.keep h1.dog hk (fun e => h1.ne e.symm)
      valve := h1.valve.keep hk (fun x hx e => h1.va.1 (e ▸ hx)) (fun _ h => h)
      log := h1.log.keep hk (fun x hx e => h1.la.1 (e ▸ hx)) (fun _ h => h)
      value := by
        have := own_base (own_far (own_far hown hfar 14 (.slice Ax n cx)) hfar 15 (.bool hold)) (Nat.zero_le _)
        simp only
        rw [Hl.out]
        exact this
      fa := .inl hH.fa
      fd := .inl hH.fd
      fV := fun x hx => .inl (hH.fV x hx)
      fL := fun x hx => .inl (hH.fL x hx)
      fx := fun x hx => .inr ⟨(hlt x hx).1, by rw [hz]; exact (hlt x hx).2⟩
      fb := grow_fb hH.fb hH.Ble (by rw [hz]; exact hs1)
      va := h1.va
      la := h1.la
      vl := h1.vl
      xv := fun x hx => ⟨fun h => hnew x hx (hH.fV x h), fun h => hnew x hx (hH.fL x h), fun h => hnew x hx (h ▸ hH.fa), fun h => hnew x hx (h ▸ hH.fd)⟩ }
    exact ⟨rfl, hH.toIs h4 (fun x hx => hx) ((Keep.of_below hb1).andThen hk (fun x _ e => e ▸ hH.fa))⟩
  · have e1 : m.write l hold = (m, 45) := by unfold HostM.write; rw [hl, if_pos he]
    rw [e1]
    have g1 : ((n : Int) != m.p.out) = true := by simpa using he
    clear e1
    go_enter Tryz.func16, Tryz.ntmps16
    go_wp2_with fail
    go_ret
    exact ⟨rfl, HostTo.refl h0⟩
end Go.Proofs.YtfoldlbnkfnenaaGreat
/- A host's Tick and Log. -/
namespace Go.Proofs.YtfoldlbnkfnenaaGreat
open Go.RowKit
set_option maxHeartbeats 10000000
set_option maxRecDepth 100000

theorem hostTick_any (B a : Nat) (m : HostM) (F : Nat → Prop) (n : Int) (w : World) (hH : HostIs B w a m F) (hi : m.Inv) (hlen : m.log.length < 1073741800) :
    Calls Tryz.prog 34 #[.pointer (some ⟨a, 0, none⟩), .int .i64 n] w fun e w' => e = .returned (.int .i64 (m.tick n).2) ∧ HostTo B w a (m.tick n).1 F w' := by
  have h0 := hH
  obtain ⟨d, v, g, val, FV, FL, hH⟩ := hH
  have hc := hH.blk.cell
  unfold hostCells at hc
  by_cases hn : n < 0
  · have e1 : m.tick n = (m, 2) := by unfold HostM.tick; rw [if_pos hn]
    rw [e1]
    clear e1
    go_enter Tryz.func34, Tryz.ntmps34
    go_wp2_with fail
    refine (dogTicks_neg d n w hn).mono ?_
    rintro e w1 ⟨rfl, rfl⟩
    go_wp2_with fail
    go_ret
    exact ⟨rfl, HostTo.refl h0⟩
  · have hl := hi.plaw
    have hw : m.p.watch ≤ 1048576 := by simp [ParM.lawful] at hl; omega
    have htk := dogTicks_any d m.p.watch m.since n w hH.dog hi.since.1 hi.since.2 hw (by omega)
    cases hr : (ticksM m.p.watch m.since n).2 with
    | false =>
      have e1 : m.tick n = ({ m with since := (ticksM m.p.watch m.since n).1 }, 0) := by unfold HostM.tick; rw [if_neg hn]; simp only [hr]; rfl
      rw [e1]
      rw [hr] at htk
      clear e1 hl
      go_enter Tryz.func34, Tryz.ntmps34
      go_wp2_with fail
      refine htk.mono ?_
      rintro e w1 ⟨rfl, hd1, hk1, hs1⟩
      have h1 := hH.onDog hd1 hk1 hs1
      clear hs1
      go_wp2_with fail
      go_ret
      exact ⟨rfl, hH.toIs h1 (fun x hx => .inl hx) (hk1.mono (fun x _ e => e ▸ hH.fd))⟩
    | true =>
      have e1 : m.tick n = (({ m with since := (ticksM m.p.watch m.since n).1 } : HostM).trip 100, 0) := by unfold HostM.tick; rw [if_neg hn]; simp only [hr]; rfl
      rw [e1]
      rw [hr] at htk
      clear e1 hl
      go_enter Tryz.func34, Tryz.ntmps34
      go_wp2_with fail
      refine htk.mono ?_
      rintro e w1 ⟨rfl, hd1, hk1, hs1⟩
      have h1 := hH.onDog hd1 hk1 hs1
      have t1 := hH.toIs h1 (fun x hx => .inl hx) (hk1.mono (fun x _ e => e ▸ hH.fd))
      have Hs := Lib.hid hs1
      clear hs1
      go_wp2_with fail
      refine (hostTrip_any B a { m with since := (ticksM m.p.watch m.since n).1 } (grow F w w1) 100 w1 (by decide) t1.is_ (by simp only; omega)).mono ?_
      rintro e w2 ⟨rfl, t2⟩
      go_wp2_with fail
      go_ret
      exact ⟨rfl, HostTo.trans h0 t1 t2⟩
theorem hostS4 {w : World} {a d v g : Nat} {m : HostM} {val : Value} (h : Blk w a 88 (hostCells m d v g val)) : w.cell? ⟨a, 7, none⟩ = some (.pointer (some ⟨g, 0, none⟩)) := (h.cell 7).trans rfl
theorem hostLog_any (B a : Nat) (m : HostM) (F : Nat → Prop) (w : World) (hH : HostIs B w a m F) (hlen : m.log.length < 1073741800) :
    Calls Tryz.prog 30 #[.pointer (some ⟨a, 0, none⟩)] w fun e w' => ∃ x, e = .returned (.tuple #[x, .int .i64 m.log.length]) ∧ w'.ownsRow w.heap.size 145 4 x (kept m.log).length (recsCells (kept m.log)) ∧ Below w.heap.size w w' := by
  obtain ⟨d, v, g, val, FV, FL, hH⟩ := hH
  have hb := hH.blk.drew
  have hl := hH.log.drew
  have hbe : Below w.heap.size w w.drew := (Below.refl _ w).drew
  have hls : ∀ w' : World, Below w.drew.heap.size w.drew w' → Below w.heap.size w w' := fun w' h => hbe.trans h
  have hc := hH.blk.cell
  unfold hostCells at hc
  go_enter Tryz.func30, Tryz.ntmps30
  go_wp2_with fail
  go_region_held3 (fun w' => w'.cell? ⟨a, 7, none⟩ = some (.pointer (some ⟨g, 0, none⟩))) (with_reducible (first | exact hostS4 hb)) (first
    | (go_at_call 65; refine (diagRecords_any g m.log FL _ hl).mono ?_; rintro e W ⟨x, rfl, hown, hb1⟩; obtain ⟨Ax, cx, rfl⟩ := own_slice hown; replace hb := hb.below hb1 hb.lt; replace hl := hl.below hb1; replace hbe := hbe.trans hb1)
    | (go_at_call 66; refine (diagTotal_any g m.log FL _ hl (by omega)).mono ?_; rintro e W2 ⟨rfl, rfl⟩))
  all_goals
    go_wp2_with fail
    refine bodyPost_ret (v := .tuple #[.slice Ax (kept m.log).length cx, .int .i64 m.log.length]) (by simp [results, Tryz.results30, go_sem]) rfl ⟨_, rfl, hown, hbe⟩
end Go.Proofs.YtfoldlbnkfnenaaGreat
/- What one sees of a host. -/
namespace Go.Proofs.YtfoldlbnkfnenaaGreat
open Go.RowKit
set_option maxHeartbeats 10000000
set_option maxRecDepth 100000

def endVal (e : EndM) (x : Value) : Value := .agg #[.int .i64 e.state, .int .u32 e.session, .int .u32 e.number, .int .u32 e.sent, .int .i64 e.since, .int .i64 e.latched, .bool e.request, .bool e.on, x]
theorem Blk.store9 {w : World} {e0 : Nat} {t : TypeId} {b0 b1 b2 b3 b4 b5 b6 b7 b8 a0 a1 a2 a3 a4 a5 a6 a7 a8 : Value} (h : Blk w e0 t #[b0, b1, b2, b3, b4, b5, b6, b7, b8]) :
    Blk (((((((((w.setCell ⟨e0, 0, none⟩ a0).setCell ⟨e0, 1, none⟩ a1).setCell ⟨e0, 2, none⟩ a2).setCell ⟨e0, 3, none⟩ a3).setCell ⟨e0, 4, none⟩ a4).setCell ⟨e0, 5, none⟩ a5).setCell ⟨e0, 6, none⟩ a6).setCell ⟨e0, 7, none⟩ a7).setCell ⟨e0, 8, none⟩ a8) e0 t #[a0, a1, a2, a3, a4, a5, a6, a7, a8] := by
  simpa using ((((((((h.set_ 0 a0).set_ 1 a1).set_ 2 a2).set_ 3 a3).set_ 4 a4).set_ 5 a5).set_ 6 a6).set_ 7 a7).set_ 8 a8
theorem Blk.far9 {w : World} {g e0 : Nat} {t : TypeId} {cs : Array Value} {a0 a1 a2 a3 a4 a5 a6 a7 a8 : Value} (hb : Blk w g t cs) (hne : e0 ≠ g) : Blk (((((((((w.setCell ⟨e0, 0, none⟩ a0).setCell ⟨e0, 1, none⟩ a1).setCell ⟨e0, 2, none⟩ a2).setCell ⟨e0, 3, none⟩ a3).setCell ⟨e0, 4, none⟩ a4).setCell ⟨e0, 5, none⟩ a5).setCell ⟨e0, 6, none⟩ a6).setCell ⟨e0, 7, none⟩ a7).setCell ⟨e0, 8, none⟩ a8) g t cs := (((((((((hb.farU hne _ _).farU hne _ _).farU hne _ _).farU hne _ _).farU hne _ _).farU hne _ _).farU hne _ _).farU hne _ _).farU hne _ _)
theorem below9 {B : Nat} {w0 w : World} {e0 : Nat} {a0 a1 a2 a3 a4 a5 a6 a7 a8 : Value} (h : Below B w0 w) (he : B ≤ e0) : Below B w0 (((((((((w.setCell ⟨e0, 0, none⟩ a0).setCell ⟨e0, 1, none⟩ a1).setCell ⟨e0, 2, none⟩ a2).setCell ⟨e0, 3, none⟩ a3).setCell ⟨e0, 4, none⟩ a4).setCell ⟨e0, 5, none⟩ a5).setCell ⟨e0, 6, none⟩ a6).setCell ⟨e0, 7, none⟩ a7).setCell ⟨e0, 8, none⟩ a8) :=
  ((((((((h.setCell (p := ⟨e0, 0, none⟩) he _).setCell (p := ⟨e0, 1, none⟩) he _).setCell (p := ⟨e0, 2, none⟩) he _).setCell (p := ⟨e0, 3, none⟩) he _).setCell (p := ⟨e0, 4, none⟩) he _).setCell (p := ⟨e0, 5, none⟩) he _).setCell (p := ⟨e0, 6, none⟩) he _).setCell (p := ⟨e0, 7, none⟩) he _).setCell (p := ⟨e0, 8, none⟩) he _
theorem hostS5 {w : World} {a d v g : Nat} {m : HostM} {val : Value} (h : Blk w a 88 (hostCells m d v g val)) :
    w.cell? ⟨a, 5, none⟩ = some (.pointer (some ⟨d, 0, none⟩)) ∧ w.cell? ⟨a, 6, none⟩ = some (.pointer (some ⟨v, 0, none⟩)) ∧ w.cell? ⟨a, 8, none⟩ = some (.int .i64 m.state) ∧ w.cell? ⟨a, 9, none⟩ = some (.int .u32 m.session) ∧ w.cell? ⟨a, 10, none⟩ = some (.int .u32 m.number) ∧ w.cell? ⟨a, 11, none⟩ = some (.int .u32 m.sent) :=
  ⟨(h.cell 5).trans rfl, (h.cell 6).trans rfl, (h.cell 8).trans rfl, (h.cell 9).trans rfl, (h.cell 10).trans rfl, (h.cell 11).trans rfl⟩
theorem hostSee_any (B a : Nat) (m : HostM) (F : Nat → Prop) (w : World) (hH : HostIs B w a m F) (hi : m.Inv) :
    Calls Tryz.prog 24 #[.pointer (some ⟨a, 0, none⟩)] w fun e w' => ∃ x, e = .returned (endVal m.see x) ∧ w'.ownsRow w.heap.size 5 1 x m.see.out.length (u8c m.see.out) ∧ Below w.heap.size w w' := by
  obtain ⟨d, v, g, val, FV, FL, hH⟩ := hH
  have hlaw := hi.plaw
  simp [ParM.lawful] at hlaw
  obtain ⟨N, hN⟩ : ∃ N : Nat, m.p.inn = (N : Int) := ⟨m.p.inn.toNat, by omega⟩
  have hN8 : N ≤ 8 := by omega
  have hwat : m.since ≤ 1048576 := by have := hi.since.2; omega
  have hsn := hi.since.1
  have hvv : ∀ b, m.valve.value = some b → b.length = N := fun b hb => by have := hi.vval b hb; omega
  obtain ⟨sm, Hsm⟩ : ∃ s, Hid (s = m.see) := ⟨_, Lib.hid rfl⟩
  rw [← Hsm.out]
  have HN := Lib.hid hN
  clear hlaw hN
  have h1 := hH.keepS (S := fun _ => False) ((Keep.refl _ w).alloc (.cells #[.int .i64 0, .int .u32 0, .int .u32 0, .int .u32 0, .int .i64 0, .int .i64 0, .bool false, .bool false, .slice none 0 0] 53)) (fun _ _ h => h)
  have hE := Blk.new w 53 #[.int .i64 0, .int .u32 0, .int .u32 0, .int .u32 0, .int .i64 0, .int .i64 0, .bool false, .bool false, .slice none 0 0]
  have hbE : Below w.heap.size w (w.alloc (.cells #[.int .i64 0, .int .u32 0, .int .u32 0, .int .u32 0, .int .i64 0, .int .i64 0, .bool false, .bool false, .slice none 0 0] 53)) := (Below.refl _ _).alloc (Nat.le_refl _) _
  have hea : w.heap.size ≠ a := by have := (hH.fb a hH.fa).2; omega
  have hva := h1.valve
  rw [HN.out] at hva
  have hc := h1.blk.cell
  unfold hostCells at hc
  go_enter Tryz.func24, Tryz.ntmps24
  go_wp2_with fail
  obtain ⟨e0, He0⟩ : ∃ e, Hid (e = w.heap.size) := ⟨_, Lib.hid rfl⟩
  rw [← He0.out] at hE hea ⊢
  generalize w.alloc (.cells #[.int .i64 0, .int .u32 0, .int .u32 0, .int .u32 0, .int .i64 0, .int .i64 0, .bool false, .bool false, .slice none 0 0] 53) = W0 at *
  refine (valveOutput_any v m.valve N FV W0 hva hN8 hvv).mono ?_
  rintro e W1 ⟨x, rfl, hown, hlen', hb1⟩
  have Hlen := Lib.hid hlen'
  clear hlen'
  have h2 := h1.keepS (S := fun _ => False) (Keep.of_below hb1) (fun _ _ h => h)
  have hE2 := hE.below hb1 hE.lt
  have hbE2 := hbE.trans (hb1.mono hbE.size)
  have hs0 := hbE.size
  obtain ⟨Ax, cx, rfl⟩ := own_slice hown
  have hb := h2.blk.drew
  have hd := (show DogIs W1.drew d m.p.watch m.since from h2.dog)
  have hv := h2.drew.valve
  have hel0 := hE.lt
  clear hc h1 hE hbE hva
  have huc := hE2.cell
  have huf := hE2.frozen
  have hc := h2.blk.cell
  unfold hostCells at hc
  go_wp2_with fail
  go_region_held3 (fun w' => w'.cell? ⟨a, 5, none⟩ = some (.pointer (some ⟨d, 0, none⟩)) ∧ w'.cell? ⟨a, 6, none⟩ = some (.pointer (some ⟨v, 0, none⟩)) ∧ w'.cell? ⟨a, 8, none⟩ = some (.int .i64 m.state) ∧ w'.cell? ⟨a, 9, none⟩ = some (.int .u32 m.session) ∧ w'.cell? ⟨a, 10, none⟩ = some (.int .u32 m.number) ∧ w'.cell? ⟨a, 11, none⟩ = some (.int .u32 m.sent)) (with_reducible (first | exact hostS5 hb | exact hostS5 (hb.far9 hea) | exact hostS5 (h2.blk.far9 hea).drew)) (first
    | (go_at_call 55; refine (dogSince_any d m.p.watch m.since _ hd hsn hwat).mono ?_; rintro e W2 ⟨rfl, rfl⟩)
    | (go_at_call 56; refine (valveLatched_any v m.valve _ FV _ hv).mono ?_; rintro e W2 ⟨rfl, rfl⟩)
    | (go_at_call 57; refine (valveRequest_any v m.valve _ FV _ hv).mono ?_; rintro e W2 ⟨rfl, rfl⟩))
  have hel := hE2.lt
  have hlt := hown.lt
  have hfar : ∀ y, (Value.slice Ax N cx).ownBlock = some y → ¬ y = e0 := fun y hy e => by have := (hlt y hy).1; omega
  have hE3 := (hE2.store9 (a0 := (.int .i64 m.state)) (a1 := (.int .u32 m.session)) (a2 := (.int .u32 m.number)) (a3 := (.int .u32 m.sent)) (a4 := (.int .i64 m.since)) (a5 := (.int .i64 m.valve.latched)) (a6 := (.bool m.valve.request)) (a7 := (.bool m.valve.on)) (a8 := (.slice Ax N cx))).drew
  have hb3 : Below w.heap.size w (((((((((W1.setCell ⟨e0, 0, none⟩ (.int .i64 m.state)).setCell ⟨e0, 1, none⟩ (.int .u32 m.session)).setCell ⟨e0, 2, none⟩ (.int .u32 m.number)).setCell ⟨e0, 3, none⟩ (.int .u32 m.sent)).setCell ⟨e0, 4, none⟩ (.int .i64 m.since)).setCell ⟨e0, 5, none⟩ (.int .i64 m.valve.latched)).setCell ⟨e0, 6, none⟩ (.bool m.valve.request)).setCell ⟨e0, 7, none⟩ (.bool m.valve.on)).setCell ⟨e0, 8, none⟩ (.slice Ax N cx)).drew := (below9 hbE2 (by have := He0.out; omega)).drew
  have hown3 := ownsRow_keep (S := fun x => x = e0) hown ((((((((((Keep.refl (fun x => x = e0) W1).setCell (p := ⟨e0, 0, none⟩) (fun _ => rfl) (.int .i64 m.state)).setCell (p := ⟨e0, 1, none⟩) (fun _ => rfl) (.int .u32 m.session)).setCell (p := ⟨e0, 2, none⟩) (fun _ => rfl) (.int .u32 m.number)).setCell (p := ⟨e0, 3, none⟩) (fun _ => rfl) (.int .u32 m.sent)).setCell (p := ⟨e0, 4, none⟩) (fun _ => rfl) (.int .i64 m.since)).setCell (p := ⟨e0, 5, none⟩) (fun _ => rfl) (.int .i64 m.valve.latched)).setCell (p := ⟨e0, 6, none⟩) (fun _ => rfl) (.bool m.valve.request)).setCell (p := ⟨e0, 7, none⟩) (fun _ => rfl) (.bool m.valve.on)).setCell (p := ⟨e0, 8, none⟩) (fun _ => rfl) (.slice Ax N cx)).drew hfar
  generalize (((((((((W1.setCell ⟨e0, 0, none⟩ (.int .i64 m.state)).setCell ⟨e0, 1, none⟩ (.int .u32 m.session)).setCell ⟨e0, 2, none⟩ (.int .u32 m.number)).setCell ⟨e0, 3, none⟩ (.int .u32 m.sent)).setCell ⟨e0, 4, none⟩ (.int .i64 m.since)).setCell ⟨e0, 5, none⟩ (.int .i64 m.valve.latched)).setCell ⟨e0, 6, none⟩ (.bool m.valve.request)).setCell ⟨e0, 7, none⟩ (.bool m.valve.on)).setCell ⟨e0, 8, none⟩ (.slice Ax N cx)).drew = W3 at *
  clear huc huf hc
  have huc := hE3.cell
  go_wp2_with fail
  have e1 : sm = m.see := Hsm.out
  have e2 : m.see.out = m.valve.output (N : Int) := by unfold HostM.see; rw [HN.out]
  subst e1
  refine bodyPost_ret (v := endVal m.see (.slice Ax N cx)) (by simp [results, Tryz.results24, go_sem, endVal, HostM.see, huc]) rfl ⟨_, rfl, ?_, hb3⟩
  rw [e2, Hlen.out]
  exact own_base hown3 hs0
end Go.Proofs.YtfoldlbnkfnenaaGreat
/- The reference's sets (parapetref09): Lawful, Encode, Sign; what one sees (parapetref13.Same). -/
namespace Go.Proofs.YtfoldlbnkfnenaaGreat
open Go.RowKit
set_option maxHeartbeats 10000000
set_option maxRecDepth 100000

theorem r9lawful_any (p : ParM) (w : World) (ho : p.Ok) : Calls Tryz.prog 33 #[parVal p] w fun e w' => e = .returned (.bool p.lawful) ∧ Below w.heap.size w w' := by
  have hk := ho.code
  obtain ⟨code, out, inn, watch, count⟩ := p
  have hb : ∀ cs t, Below w.heap.size w (w.alloc (.cells cs t)) := fun cs t => (Below.refl _ _).alloc (Nat.le_refl _) _
  obtain ⟨law, Hlaw⟩ : ∃ b, Hid (b = (ParM.mk code out inn watch count).lawful) := ⟨_, Lib.hid rfl⟩
  rw [← Hlaw.out]
  have Hl2 : Hid (law = decide (code ≠ 0 ∧ 1 ≤ out ∧ out ≤ 8 ∧ 1 ≤ inn ∧ inn ≤ 8 ∧ 1 ≤ watch ∧ watch ≤ 1048576 ∧ 2 ≤ count)) := Lib.hid Hlaw.out
  clear Hlaw
  unfold parVal
  simp only at *
  have no : ∀ (q : Prop) [Decidable q], (law = decide q) → ¬ q → law = false := fun q _ h hn => by rw [h]; simpa using hn
  by_cases h1 : code ≤ 0
  · have hl := no _ Hl2.out (by omega)
    have hd : decide (0 < code) = false := by simp; omega
    subst hl
    go_enter Tryz.func33, Tryz.ntmps33
    go_wp2_with fail
    go_ret
    exact ⟨rfl, hb _ _⟩
  by_cases h2 : out < 1
  · have hl := no _ Hl2.out (by omega)
    subst hl
    go_enter Tryz.func33, Tryz.ntmps33
    go_wp2_with fail
    go_ret
    exact ⟨rfl, hb _ _⟩
  by_cases h3 : 8 < out
  · have hl := no _ Hl2.out (by omega)
    subst hl
    go_enter Tryz.func33, Tryz.ntmps33
    go_wp2_with fail
    go_ret
    exact ⟨rfl, hb _ _⟩
  by_cases h4 : inn < 1
  · have hl := no _ Hl2.out (by omega)
    subst hl
    go_enter Tryz.func33, Tryz.ntmps33
    go_wp2_with fail
    go_ret
    exact ⟨rfl, hb _ _⟩
  by_cases h5 : 8 < inn
  · have hl := no _ Hl2.out (by omega)
    subst hl
    go_enter Tryz.func33, Tryz.ntmps33
    go_wp2_with fail
    go_ret
    exact ⟨rfl, hb _ _⟩
  by_cases h6 : watch < 1
  · have hl := no _ Hl2.out (by omega)
    subst hl
    go_enter Tryz.func33, Tryz.ntmps33
    go_wp2_with fail
    go_ret
    exact ⟨rfl, hb _ _⟩
  by_cases h7 : 1048576 < watch
  · have hl := no _ Hl2.out (by omega)
    subst hl
    go_enter Tryz.func33, Tryz.ntmps33
    go_wp2_with fail
    go_ret
    exact ⟨rfl, hb _ _⟩
  · have hl : law = decide (2 ≤ count) := by rw [Hl2.out]; simp only [decide_eq_decide]; omega
    subst hl
    clear Hl2 no
    go_enter Tryz.func33, Tryz.ntmps33
    go_wp2_with fail
    go_ret
    exact ⟨rfl, hb _ _⟩
theorem r9encode_any (p : ParM) (w : World) (ho : p.Ok) (hl : p.lawful = true) :
    Calls Tryz.prog 83 #[parVal p] w fun e w' => ∃ v, e = .returned (.tuple #[v, .int .i64 0]) ∧ w'.ownsRow w.heap.size 5 1 v p.bytes.length (u8c p.bytes) ∧ Below w.heap.size w w' := by
  obtain ⟨i0, hi0, hz0, hz1, hz2⟩ := info_parts byte_info
  have hchk := fun w => r9lawful_any p w ho
  rw [hl] at hchk
  obtain ⟨bs, Hbs⟩ : ∃ b, Hid (b = p.bytes) := ⟨_, Lib.hid rfl⟩
  rw [← Hbs.out]
  have Hw : Hid (0 ≤ p.watch ∧ p.watch < 4294967296) := Lib.hid (by
    simp [ParM.lawful] at hl
    omega)
  obtain ⟨code, hcode⟩ := word_ex ho.code
  obtain ⟨count, hcount⟩ := word_ex ho.count
  obtain ⟨code', out, inn, watch, count'⟩ := p
  simp only at *
  subst hcode hcount
  obtain ⟨wt, hwt⟩ := word_ex Hw.out
  have Hb2 : Hid (bs = (wordOf code ++ [byteOf out, byteOf inn]) ++ wordOf wt ++ wordOf count) := Lib.hid (by
    rw [Hbs.out]
    unfold ParM.bytes
    simp only
    rw [hwt, wordBytes_nat, wordBytes_nat, wordBytes_nat])
  clear Hbs Hw hl ho
  subst hwt
  unfold parVal at *
  simp only at *
  have hwt1 : IntKind.u32.wrap (wt.toNat : Int) = (wt.toNat : Int) := by have := wt.isLt; exact IntWalk.u32_in _ (by omega)
  have hwt2 : (wt.toNat : Int) % 4294967296 = (wt.toNat : Int) := by have := wt.isLt; omega
  go_enter Tryz.func83, Tryz.ntmps83
  go_wp2_with fail
  refine (hchk _).mono ?_
  rintro e w1 ⟨rfl, hb1⟩
  have hB1 := (Blk.new w 30 #[u32v code, .int .i64 out, .int .i64 inn, .int .i64 (wt.toNat : Int), u32v count]).below hb1 (by simp)
  have hbW : Below w.heap.size w w1 := ((Below.refl _ _).alloc (Nat.le_refl _) _).trans (hb1.mono (by simp))
  have hn1 := hbW.size
  have hlt1 := hB1.lt
  have hc1 := hB1.cell
  have hc1a : ∀ o i, (w1.alloc o).cell? ⟨w.heap.size, i, none⟩ = (#[u32v code, .int .i64 out, .int .i64 inn, .int .i64 (wt.toNat : Int), u32v count] : Array Value)[i]? := fun o i => (hB1.alloc o).cell i
  have hown0 : (w1.alloc (.cells #[] 5)).ownsRow w1.heap.size 5 1 (.slice (some ⟨w1.heap.size, 0, none⟩) 0 0) 0 (u8c []) := World.ownsRow_made w1 #[] 0 (Nat.le_refl _) (by unfold maxLen; omega) rfl
  clear hb1 hchk
  go_wp2_with fail
  refine (rword_any code _).mono ?_
  rintro e w2 ⟨v2, rfl, hw2, hb2⟩
  obtain ⟨A2, c2, rfl⟩ := own_slice hw2
  replace hB1 := (hB1.alloc (.cells #[] 5)).below hb2 (hB1.alloc _).lt
  replace hbW := (hbW.alloc hbW.size (.cells #[] 5)).trans (hb2.mono (by simp; omega))
  have hown := own_below hown0 hb2
  have hsz : w1.heap.size ≤ w2.heap.size := by have := hb2.size; simp at this; omega
  have hlt2 := hown.lt
  clear hb2 hown0 hc1 hc1a
  go_wp2_with (first
    | (at_builtin; refine wpList_append_any _ rfl (.tmp 8) (.tmp 11) _ rfl w1.heap.size 5 i0 _ 1 1 Tryz.underlying22 hi0 hz0 hz1 hz2 rfl (by omega) (.slice (some ⟨w1.heap.size, 0, none⟩) 0 0) 0 (u8c []) rfl hown w2.heap.size A2 4 c2 (u8c (wordOf code)) rfl (Reads.of_own hw2) (u8c_one _) (by unfold maxLen; omega) (by omega) hsz ?_; intro v3 w3 hown3 hg3 hat3; rw [← u8c_append] at hown3; simp only [Nat.zero_add, List.nil_append] at hown3; obtain ⟨A3, c3, rfl⟩ := own_slice hown3; have hB3 := hB1.grown hg3 (fun h => by have := (hlt2 _ h).1; omega); have hc3 := hB3.cell; have hbW3 := hbW.grown hg3 hbW.size (fun g h => by have := (hlt2 g h).1; omega); have hsz3 := Nat.le_trans hsz hg3.size; have hlt3 := hown3.lt)
    | (at_builtin; refine wpList_append_any _ rfl (.tmp 13) (.tmp 20) _ rfl w1.heap.size 5 i0 _ 1 1 Tryz.underlying22 hi0 hz0 hz1 hz2 rfl (by omega) (.slice A3 4 c3) 4 (u8c (wordOf code)) rfl (hown3.alloc _) (w3.heap.size + 1) (some ⟨w3.heap.size, 0, none⟩) 2 2 (u8c [byteOf out, byteOf inn]) rfl (by simpa using byte_pair (Blk.new w3 5 _)) (u8c_one _) (by unfold maxLen; omega) (by omega) (by simp; omega) ?_; intro v4 w4 hown4 hg4 hat4; rw [← u8c_append] at hown4; simp only [Nat.reduceAdd] at hown4; obtain ⟨A4, c4, rfl⟩ := own_slice hown4; have hB4 := (hB3.alloc _).grown hg4 (fun h => by have := (hlt3 _ h).1; omega); have hc4 := hB4.cell; have hbW4 := (hbW3.alloc hbW3.size _).grown hg4 (by have := hbW3.size; simp; omega) (fun k hk => by have := (hlt3 k hk).1; omega); have hs4 := hg4.size; have hsz4 : w1.heap.size ≤ w4.heap.size := by simp at hs4; omega))
  refine (rword_any wt _).mono ?_
  rintro e w5 ⟨v5, rfl, hw5, hb5⟩
  obtain ⟨A5, c5, rfl⟩ := own_slice hw5
  have hB5 := hB4.below hb5 hB4.lt
  have hbW5 := hbW4.trans (hb5.mono hbW4.size)
  have hown5 := own_below hown4 hb5
  have hsz5 := Nat.le_trans hsz4 hb5.size
  have hlt5 := hown5.lt
  clear hc3 hc4 hs4
  go_wp2_with (at_builtin; refine wpList_append_any _ rfl (.tmp 22) (.tmp 26) _ rfl w1.heap.size 5 i0 _ 1 1 Tryz.underlying22 hi0 hz0 hz1 hz2 rfl (by omega) (.slice A4 6 c4) 6 (u8c (wordOf code ++ [byteOf out, byteOf inn])) rfl hown5 w5.heap.size A5 4 c5 (u8c (wordOf wt)) rfl (Reads.of_own hw5) (u8c_one _) (by unfold maxLen; omega) (by omega) hsz5 ?_; intro v6 w6 hown6 hg6 hat6; rw [← u8c_append] at hown6; simp only [Nat.reduceAdd] at hown6; obtain ⟨A6, c6, rfl⟩ := own_slice hown6; have hB6 := hB5.grown hg6 (fun h => by have := (hlt5 _ h).1; omega); have hc6 := hB6.cell; have hbW6 := hbW5.grown hg6 hbW5.size (fun g h => by have := (hlt5 g h).1; omega); have hsz6 := Nat.le_trans hsz5 hg6.size)
  refine (rword_any count _).mono ?_
  rintro e w7 ⟨v7, rfl, hw7, hb7⟩
  obtain ⟨A7, c7, rfl⟩ := own_slice hw7
  have hbW7 := hbW6.trans (hb7.mono hbW6.size)
  have hown7 := own_below hown6 hb7
  have hsz7 := Nat.le_trans hsz6 hb7.size
  have hlt7 := hown7.lt
  clear hc6
  go_wp2_with (at_builtin; refine wpList_append_any _ rfl (.tmp 28) (.tmp 31) _ rfl w1.heap.size 5 i0 _ 1 1 Tryz.underlying22 hi0 hz0 hz1 hz2 rfl (by omega) (.slice A6 10 c6) 10 (u8c (wordOf code ++ [byteOf out, byteOf inn] ++ wordOf wt)) rfl hown7 w7.heap.size A7 4 c7 (u8c (wordOf count)) rfl (Reads.of_own hw7) (u8c_one _) (by unfold maxLen; omega) (by omega) hsz7 ?_; intro v8 w8 hown8 hg8 hat8; rw [← u8c_append] at hown8; simp only [Nat.reduceAdd] at hown8; obtain ⟨A8, c8, rfl⟩ := own_slice hown8; have hbW8 := hbW7.grown hg8 hbW7.size (fun g h => by have := (hlt7 g h).1; omega))
  refine bodyPost_ret (v := .tuple #[.slice A8 14 c8, .int .i64 0]) (by simp [results, Tryz.results83, go_sem]) rfl ⟨_, rfl, ?_, hbW8⟩
  rw [Hb2.out]
  have hlen : ((wordOf code ++ [byteOf out, byteOf inn]) ++ wordOf wt ++ wordOf count).length = 14 := by simp [wordOf]
  rw [hlen]
  exact own_base hown8 hn1
theorem r9sign_any (p : ParM) (w : World) (ho : p.Ok) (hl : p.lawful = true) :
    Calls Tryz.prog 47 #[parVal p] w fun e w' => ∃ v, e = .returned v ∧ w'.ownsRow w.heap.size 5 1 v 4 (u8c p.sign) ∧ Below w.heap.size w w' := by
  have henc := fun w => r9encode_any p w ho hl
  have hs : p.sign = wordOf (crcOf 0#32 p.bytes) := rfl
  obtain ⟨bs, Hbs⟩ : ∃ b, Hid (b = p.bytes) := ⟨_, Lib.hid rfl⟩
  rw [hs]
  rw [← Hbs.out] at henc ⊢
  have hlen : bs.length = 14 := by rw [Hbs.out]; simp [ParM.bytes, wordBytes, wordOf]
  rw [hlen] at henc
  have Hlen := Lib.hid hlen
  clear hlen hl ho hs
  obtain ⟨code, out, inn, watch, count⟩ := p
  unfold parVal at *
  simp only at *
  go_enter Tryz.func47, Tryz.ntmps47
  go_wp2_with fail
  refine (henc _).mono ?_
  rintro e w1 ⟨v, rfl, hown, hb1⟩
  obtain ⟨A, c, rfl⟩ := own_slice hown
  have hb1' : Below w.heap.size w w1 := ((Below.refl _ _).alloc (Nat.le_refl _) _).trans (hb1.mono (by simp))
  go_wp2_with fail
  refine (rsum_any A 14 c bs _ w1 (Reads.of_own hown) (Nat.le_refl _) (by omega)).mono ?_
  rintro e w2 ⟨rfl, hb2⟩
  have hb2' := hb1'.trans (hb2.mono hb1'.size)
  go_wp2_with fail
  refine (rword_any _ w2).mono ?_
  rintro e w3 ⟨v3, rfl, hown3, hb3⟩
  go_wp2_with fail
  go_ret
  exact ⟨_, rfl, own_base hown3 hb2'.size, hb2'.trans (hb3.mono hb2'.size)⟩
end Go.Proofs.YtfoldlbnkfnenaaGreat
