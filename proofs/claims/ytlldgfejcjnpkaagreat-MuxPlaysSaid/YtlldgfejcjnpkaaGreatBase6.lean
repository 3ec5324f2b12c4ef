/- The base of the laws, part 6: contracts and plain lemmas, no statement. -/
import Derived.Test.YtlldgfejcjnpkaaGreatBase2
import Derived.Test.YtlldgfejcjnpkaaGreatBase3
import Derived.Test.YtlldgfejcjnpkaaGreatBase5
import Derived.Deep.RegionHeld3
set_option linter.unusedVariables false
/- unit's forms and laws by their contracts. -/
namespace Go.Proofs.YtlldgfejcjnpkaaGreat
open Go.RowKit
set_option maxHeartbeats 4000000
set_option maxRecDepth 100000

/-- What each kind of unit looks like. -/
def formM (k : Int) : (Int × Int × Int × Bool) × Bool :=
  if k = 1 then ((0, 0, 1, false), true) else if k = 2 ∨ k = 17 then ((1, 0, 1, false), true) else if k = 3 ∨ k = 18 ∨ k = 19 then ((1, 0, 0, false), true)
  else if k = 4 ∨ k = 20 then ((1, 1, 2, true), true) else if k = 5 ∨ k = 21 then ((1, 1, 0, false), true) else if k = 22 then ((2, 0, 0, false), true) else ((0, 0, 0, false), false)
def formVal (f : Int × Int × Int × Bool) : Value := .agg #[.int .i64 f.1, .int .i64 f.2.1, .int .i64 f.2.2.1, .bool f.2.2.2]
theorem formOf_any (k : Int) (w : World) : Calls Tryz.prog 176 #[.int .i64 k] w fun e w' => e = .returned (.tuple #[formVal (formM k).1, .bool (formM k).2]) ∧ Below w.heap.size w w' := by
  by_cases hk : k = 1 ∨ k = 2 ∨ k = 17 ∨ k = 3 ∨ k = 18 ∨ k = 19 ∨ k = 4 ∨ k = 20 ∨ k = 5 ∨ k = 21 ∨ k = 22
  · rcases hk with rfl | rfl | rfl | rfl | rfl | rfl | rfl | rfl | rfl | rfl | rfl
    all_goals
      go_enter Tryz.func176, Tryz.ntmps176
      go_wp2_with fail
      refine bodyPost_ret (v := _) (by simp [results, Tryz.results176, go_sem]; exact ⟨rfl, rfl⟩) rfl ⟨rfl, ?_⟩
      exact (Below.refl _ _).alloc (Nat.le_refl _) _
  · simp only [not_or] at hk
    obtain ⟨h1, h2, h3, h4, h5, h6, h7, h8, h9, h10, h11⟩ := hk
    have e : formM k = ((0, 0, 0, false), false) := by simp [formM, h1, h2, h3, h4, h5, h6, h7, h8, h9, h10, h11]
    rw [e]
    have g1 : (k == 1) = false := by simpa using h1
    have g2 : (k == 2) = false := by simpa using h2
    have g3 : (k == 17) = false := by simpa using h3
    have g4 : (k == 3) = false := by simpa using h4
    have g5 : (k == 18) = false := by simpa using h5
    have g6 : (k == 19) = false := by simpa using h6
    have g7 : (k == 4) = false := by simpa using h7
    have g8 : (k == 20) = false := by simpa using h8
    have g9 : (k == 5) = false := by simpa using h9
    have g10 : (k == 21) = false := by simpa using h10
    have g11 : (k == 22) = false := by simpa using h11
    clear h1 h2 h3 h4 h5 h6 h7 h8 h9 h10 h11
    go_enter Tryz.func176, Tryz.ntmps176
    go_wp2_with fail
    refine bodyPost_ret (v := .tuple #[formVal (0, 0, 0, false), .bool false]) (by simp [results, Tryz.results176, go_sem, formVal]) rfl ⟨rfl, ?_⟩
    exact (Below.refl _ _).alloc (Nat.le_refl _) _
def lenM (d n : Int) : Bool := if d = 1 then n == 4 else if d = 2 then decide (1 ≤ n) && decide (n ≤ 8) else n == 0
theorem unitLength_any (s n d : Int) (f : Bool) (m : Int) (w : World) : Calls Tryz.prog 177 #[formVal (s, n, d, f), .int .i64 m] w fun e w' => e = .returned (.bool (lenM d m)) ∧ Below w.heap.size w w' := by
  unfold formVal
  have hb : ∀ cs t, Below w.heap.size w (w.alloc (.cells cs t)) := fun cs t => (Below.refl _ _).alloc (Nat.le_refl _) _
  by_cases h1 : d = 1
  · subst h1
    go_enter Tryz.func177, Tryz.ntmps177
    go_wp2_with fail
    go_ret
    exact ⟨rfl, hb _ _⟩
  · have g1 : (d == 1) = false := by simpa using h1
    by_cases h2 : d = 2
    · subst h2
      by_cases h3 : 1 ≤ m
      · go_enter Tryz.func177, Tryz.ntmps177
        go_wp2_with fail
        go_ret
        exact ⟨by simp [lenM, h3], hb _ _⟩
      · go_enter Tryz.func177, Tryz.ntmps177
        go_wp2_with fail
        go_ret
        exact ⟨by simp [lenM]; omega, hb _ _⟩
    · have g2 : (d == 2) = false := by simpa using h2
      go_enter Tryz.func177, Tryz.ntmps177
      go_wp2_with fail
      go_ret
      exact ⟨by simp [lenM, h1, h2], hb _ _⟩
def fitsM (want n : Int) : Bool := want == 2 || ((want == 1) == decide (0 < n))
theorem unitFits_any (want n : Int) (w : World) : Calls Tryz.prog 178 #[.int .i64 want, .int .u32 n] w fun e w' => e = .returned (.bool (fitsM want n)) ∧ w' = w := by
  by_cases h1 : want = 2
  · subst h1
    go_enter Tryz.func178, Tryz.ntmps178
    go_wp2_with fail
    go_ret
    exact ⟨by simp [fitsM], rfl⟩
  · have g1 : (want == 2) = false := by simpa using h1
    go_enter Tryz.func178, Tryz.ntmps178
    go_wp2_with fail
    go_ret
    exact ⟨by simp [fitsM, g1], rfl⟩
def unitVal (u : UnitM) (v : Value) : Value := .agg #[.int .i64 u.kind, .int .u32 u.code, .int .u32 u.session, .int .u32 u.number, .int .i64 u.flags, v]
def lawM (s n d : Int) (f is : Bool) (u : UnitM) : Int :=
  if !is then 43 else if u.code == 0 then 44 else if !lenM d u.data.length then 45 else if !fitsM s u.session then 46 else if !fitsM n u.number then 47
  else if decide (u.flags < 0) || decide (15 < u.flags) || (!f && u.flags != 0) then 48 else 0
theorem lawM_eq (u : UnitM) (hs : 0 ≤ u.session) (hn : 0 ≤ u.number) : lawM (formM u.kind).1.1 (formM u.kind).1.2.1 (formM u.kind).1.2.2.1 (formM u.kind).1.2.2.2 (formM u.kind).2 u = u.lawful := by
  obtain ⟨kind, code, session, number, flags, data⟩ := u
  simp only at hs hn ⊢
  have e1 : decide (0 < session) = (session != 0) := by
    by_cases h : session = 0
    · subst h; rfl
    · have : 0 < session := by omega
      simp [h, this]
  have e2 : decide (0 < number) = (number != 0) := by
    by_cases h : number = 0
    · subst h; rfl
    · have : 0 < number := by omega
      simp [h, this]
  have e3 : (decide (flags < 0) || decide (15 < flags)) = !decide (0 ≤ flags ∧ flags ≤ 15) := by
    by_cases h1 : flags < 0
    · have : ¬ 0 ≤ flags := by omega
      simp [h1, this]
    · by_cases h2 : 15 < flags
      · have : ¬ flags ≤ 15 := by omega
        simp [h2, this]
      · have g1 : 0 ≤ flags := by omega
        have g2 : flags ≤ 15 := by omega
        simp [h1, h2, g1, g2]
  have e4 : (decide ((1 : Int) ≤ data.length) && decide ((data.length : Int) ≤ 8)) = decide (1 ≤ data.length ∧ data.length ≤ 8) := by
    rw [Bool.eq_iff_iff]
    simp
    omega
  have e5 : ((data.length : Int) == 4) = (data.length == 4) := by rw [Bool.eq_iff_iff]; simp; omega
  have e6 : ((data.length : Int) == 0) = (data.length == 0) := by rw [Bool.eq_iff_iff]; simp
  have e7 : (session == 0) = !(session != 0) := by simp [bne]
  have e8 : (flags == 0) = !(flags != 0) := by simp [bne]
  unfold UnitM.lawful lawM fitsM flagOk numOk sessOk dataOk lenM
  simp only [e1, e2, e3, e4, e5, e6, e7, e8]
  generalize (session != 0) = q1
  generalize (number != 0) = q2
  generalize (flags != 0) = q3
  generalize (data.length == 4) = q4
  generalize (data.length == 0) = q5
  generalize decide (1 ≤ data.length ∧ data.length ≤ 8) = q6
  generalize decide (0 ≤ flags ∧ flags ≤ 15) = q7
  clear e1 e2 e3 e4 e5 e6 e7 e8
  by_cases hk : kind = 1 ∨ kind = 2 ∨ kind = 17 ∨ kind = 3 ∨ kind = 18 ∨ kind = 19 ∨ kind = 4 ∨ kind = 20 ∨ kind = 5 ∨ kind = 21 ∨ kind = 22
  · rcases hk with rfl | rfl | rfl | rfl | rfl | rfl | rfl | rfl | rfl | rfl | rfl
    all_goals
      simp [formM, isHost, isDev]
      try (cases q1 <;> cases q2 <;> cases q3 <;> cases q7 <;> simp)
  · simp only [not_or] at hk
    obtain ⟨h1, h2, h3, h4, h5, h6, h7, h8, h9, h10, h11⟩ := hk
    have i1 : isHost kind = false := by
      unfold isHost
      by_cases h : 1 ≤ kind
      · have : ¬ kind ≤ 5 := by omega
        simp [this]
      · simp [h]
    have i2 : isDev kind = false := by
      unfold isDev
      by_cases h : 17 ≤ kind
      · have : ¬ kind ≤ 22 := by omega
        simp [this]
      · simp [h]
    simp [formM, h1, h2, h3, h4, h5, h6, h7, h8, h9, h10, h11, i1, i2]
theorem unitLawful_any (u : UnitM) (A : Option Addr) (c : Nat) (w : World) (hs : 0 ≤ u.session) (hn : 0 ≤ u.number) :
    Calls Tryz.prog 134 #[unitVal u (.slice A u.data.length c)] w fun e w' => e = .returned (.int .i64 u.lawful) ∧ Below w.heap.size w w' := by
  rw [← lawM_eq u hs hn]
  obtain ⟨kind, code, session, number, flags, data⟩ := u
  unfold unitVal
  simp only at *
  rcases hform : formM kind with ⟨⟨s, n, d, f⟩, is⟩
  go_enter Tryz.func134, Tryz.ntmps134
  go_wp2_with fail
  refine (formOf_any _ _).mono ?_
  rw [hform]
  unfold formVal
  rintro e w1 ⟨rfl, hb1⟩
  have hB := (Blk.new w 64 #[Value.int .i64 kind, .int .u32 code, .int .u32 session, .int .u32 number, .int .i64 flags, .slice A data.length c]).below hb1 (by simp)
  have hb1' : Below w.heap.size w w1 := ((Below.refl _ _).alloc (Nat.le_refl _) _).trans (hb1.mono (by simp))
  clear hb1
  have hc1 : ∀ o i, (w1.alloc o).cell? ⟨w.heap.size, i, none⟩ = (#[Value.int .i64 kind, .int .u32 code, .int .u32 session, .int .u32 number, .int .i64 flags, .slice A data.length c] : Array Value)[i]? := fun o i => (hB.alloc o).cell i
  have hn1 := hb1'.size
  cases is with
  | false =>
    go_wp2_with fail
    go_ret
    exact ⟨rfl, hb1'.alloc hn1 _⟩
  | true =>
  cases hcode : (code == 0) with
  | true =>
    go_wp2_with fail
    go_ret
    exact ⟨by simp [lawM, hcode], hb1'.alloc hn1 _⟩
  | false =>
  go_wp2_with fail
  refine (unitLength_any s n d f _ _).mono ?_
  rintro e w2 ⟨rfl, hb2⟩
  have hC := (Blk.new w1 275 #[Value.int .i64 s, .int .i64 n, .int .i64 d, .bool f]).below hb2 (by simp)
  have hc2 : ∀ i, w2.cell? ⟨w.heap.size, i, none⟩ = (#[Value.int .i64 kind, .int .u32 code, .int .u32 session, .int .u32 number, .int .i64 flags, .slice A data.length c] : Array Value)[i]? := ((hB.alloc _).below hb2 (hB.alloc _).lt).cell
  have hc3 : ∀ i, w2.cell? ⟨w1.heap.size, i, none⟩ = (#[Value.int .i64 s, .int .i64 n, .int .i64 d, .bool f] : Array Value)[i]? := hC.cell
  have hb2' : Below w.heap.size w w2 := (hb1'.alloc hn1 _).trans (hb2.mono (by simp; omega))
  clear hb2 hB hC hc1
  cases hlen : lenM d data.length with
  | false =>
    go_wp2_with fail
    go_ret
    exact ⟨by simp [lawM, hcode, hlen], hb2'⟩
  | true =>
  go_wp2_with fail
  refine (unitFits_any _ _ _).mono ?_
  rintro e w3 ⟨rfl, rfl⟩
  cases hfit : fitsM s session with
  | false =>
    go_wp2_with fail
    go_ret
    exact ⟨by simp [lawM, hcode, hlen, hfit], hb2'⟩
  | true =>
  go_wp2_with fail
  refine (unitFits_any _ _ _).mono ?_
  rintro e w4 ⟨rfl, rfl⟩
  cases hfin : fitsM n number with
  | false =>
    go_wp2_with fail
    go_ret
    exact ⟨by simp [lawM, hcode, hlen, hfit, hfin], hb2'⟩
  | true =>
  by_cases hx : flags < 0
  · go_wp2_with fail
    go_ret
    exact ⟨by simp [lawM, hcode, hlen, hfit, hfin, hx], hb2'⟩
  · by_cases hy : 15 < flags
    · go_wp2_with fail
      go_ret
      exact ⟨by simp [lawM, hcode, hlen, hfit, hfin, hy], hb2'⟩
    · cases f with
      | true =>
        go_wp2_with fail
        go_ret
        exact ⟨by simp [lawM, hcode, hlen, hfit, hfin, hx, hy], hb2'⟩
      | false =>
        cases hz : (flags != 0) with
        | true =>
          go_wp2_with fail
          go_ret
          exact ⟨by simp [lawM, hcode, hlen, hfit, hfin, hz], hb2'⟩
        | false =>
          go_wp2_with fail
          go_ret
          exact ⟨by simp [lawM, hcode, hlen, hfit, hfin, hx, hy, hz], hb2'⟩
end Go.Proofs.YtlldgfejcjnpkaaGreat
/- The reference's check (parapetref02): Word, Sum, Seal, Valid. -/
namespace Go.Proofs.YtlldgfejcjnpkaaGreat
open Go.RowKit
set_option maxHeartbeats 4000000
set_option maxRecDepth 100000

theorem rword_any (s : BitVec 32) (w : World) : Calls Tryz.prog 91 #[u32v s] w fun e w' => ∃ v, e = .returned v ∧ w'.ownsRow w.heap.size 5 1 v 4 (u8c (wordOf s)) ∧ Below w.heap.size w w' := by
  have hown : (w.alloc (.cells #[Value.int .u8 ((s.toNat : Int) / 16777216), .int .u8 ((s.toNat : Int) / 65536 % 256), .int .u8 ((s.toNat : Int) / 256 % 256), .int .u8 ((s.toNat : Int) % 256)] 5)).ownsRow w.heap.size 5 1 (.slice (some ⟨w.heap.size, 0, none⟩) 4 4) 4 (u8c (wordOf s)) := by
    have := own_full w #[Value.int .u8 ((s.toNat : Int) / 16777216), .int .u8 ((s.toNat : Int) / 65536 % 256), .int .u8 ((s.toNat : Int) / 256 % 256), .int .u8 ((s.toNat : Int) % 256)] 5 w.heap.size (Nat.le_refl _) (by simp [maxLen])
    rw [word_cells] at this ⊢
    simpa [u8c, wordOf] using this
  go_enter Tryz.func91, Tryz.ntmps91
  go_wp2_with fail
  go_ret
  exact ⟨_, rfl, by simpa using hown, (Below.refl _ _).alloc (Nat.le_refl _) _⟩
theorem rsum_any (A : Option Addr) (n c : Nat) (l : List UInt8) (B : Nat) (w : World) (hr : Reads w B 1 A n (u8c l)) (hB : B ≤ w.heap.size) (hn : n < 900000) :
    Calls Tryz.prog 92 #[.slice A n c] w fun e w' => e = .returned (u32v (crcOf 0#32 l)) ∧ Below w.heap.size w w' := by
  obtain ⟨i0, hi0, hz0, hz1, hz2⟩ := info_parts byte_info
  have hmk := fun w => run_room (t := 22) (z := .int .u8 0) Tryz.underlying22 byte_info rfl (n + 4) (by omega) w
  rw [show ((n + 4 : Nat) : Int) = (n : Int) + 4 by simp] at hmk
  have hown0 := own_room w (.int .u8 0) 5 (n + 4) (by omega)
  have hb0 : Below w.heap.size w (w.alloc (.cells (madeCells #[.int .u8 0] (n + 4)) 5)) := (Below.refl _ _).alloc (Nat.le_refl _) _
  have hwr := fun (x : BitVec 32) => (show IntKind.u32.wrap (x.toNat : Int) = (x.toNat : Int) from IntWalk.u32_in _ (by have := x.isLt; omega))
  have hzr : ∀ (W : World), Reads (W.alloc (.cells #[Value.int .u8 0, .int .u8 0, .int .u8 0, .int .u8 0] 5)) (W.heap.size + 1) 1 (some ⟨W.heap.size, 0, none⟩) 4 (u8c [0, 0, 0, 0]) := fun W => Reads.of_blk (Blk.new W _ _) (by omega) rfl
  go_enter Tryz.func92, Tryz.ntmps92
  go_wp2_with (first
    | (at_builtin; refine wpList_append_any _ rfl (.tmp 9) (.tmp 10) _ rfl w.heap.size 5 i0 _ 1 1 Tryz.underlying22 hi0 hz0 hz1 hz2 rfl (by omega) (.slice (some ⟨w.heap.size, 0, none⟩) 0 (n + 4)) 0 [] rfl hown0 B A n c (u8c l) rfl (hr.alloc hB _) (u8c_one l) (by unfold maxLen; omega) (by omega) (by simp) ?_; intro v1 w1 hown1 hg1 hat1; rw [Nat.zero_add, List.nil_append] at hown1; obtain ⟨A1, c1, rfl⟩ := own_slice hown1; have hb1 := hb0.grown hg1 (by simp) (fun k hk => by simp [Value.ownBlock] at hk; omega); have hlt1 := hown1.lt)
    | (at_builtin; refine wpList_append_any _ rfl (.tmp 11) (.tmp 12) _ rfl w.heap.size 5 i0 _ 1 1 Tryz.underlying22 hi0 hz0 hz1 hz2 rfl (by omega) (.slice A1 n c1) n (u8c l) rfl (hown1.alloc _) (w1.heap.size + 1) (some ⟨w1.heap.size, 0, none⟩) 4 4 (u8c [0, 0, 0, 0]) rfl (hzr _) (u8c_one _) (by unfold maxLen; omega) (by omega) (by have := hb1.size; simp; omega) ?_; intro v2 w2 hown2 hg2 hat2; obtain ⟨A2, c2, rfl⟩ := own_slice hown2; have hb2 := (hb1.alloc hb1.size _).grown hg2 (by have := hb1.size; simp; omega) (fun k hk => (hlt1 k hk).1)))
  clear hmk hown0 hb0 hg1 hg2 hat1 hat2 hown1 hb1 hlt1 hzr
  refine (refOf_any A2 (n + 4) c2 (l ++ [0, 0, 0, 0]) w2.heap.size w2 (by rw [u8c_append]; exact Reads.of_own hown2) (Nat.le_refl _) (by omega)).mono ?_
  rintro e w3 ⟨rfl, hb3⟩
  rw [crc_same]
  have hb4 := hb2.trans (hb3.mono hb2.size)
  go_wp2_with fail
  go_ret
  exact ⟨rfl, hb4⟩
/-- string(b) of bytes that read as l. -/
theorem conv_reads {w : World} {B n c : Nat} {A : Option Addr} {l : List UInt8} (hr : Reads w B 1 A n (u8c l)) : (convert 22 9 (.slice A n c)).run Tryz.prog w = .ok (.string ⟨l.toArray⟩) w := by
  have hl : l.length = n := by have := hr.1; simpa [u8c] using this
  cases A with
  | none =>
    have h0 : n = 0 := by
      rcases Nat.eq_zero_or_pos n with h | h
      · exact h
      · obtain ⟨ad, h, _⟩ := hr.2 h; cases h
    subst h0
    obtain rfl : l = [] := List.eq_nil_of_length_eq_zero hl
    exact run_convert_bytes_nil w 22 5 Tryz.underlying22 Tryz.underlying5 0 c 9 Tryz.underlying9
  | some ad =>
    have hload : (loadCells ad n).run Tryz.prog w = .ok ((l.map fun c => (c.toNat : Int)).map (Value.int .u8)).toArray w := by
      have := run_loadCells_list (P := Tryz.prog) w ad (u8c l) (fun j v hj => by
        have hjl : j < n := by
          have := (List.getElem?_eq_some_iff.1 hj).1
          rw [u8c_length, hl] at this
          exact this
        obtain ⟨ad', e, _, hc⟩ := hr.2 (by omega)
        injection e with e
        subst e
        exact hc j v hj)
      rw [u8c_length, hl] at this
      rw [this]
      simp [u8c]
    rw [run_convert_bytes_string w _ _ _ _ n c Tryz.underlying22 Tryz.underlying5 Tryz.underlying9, run_bytesToString w ad n c _ hload, foldl_push_bytes]
    have e : ∀ l : List UInt8, List.map ((fun n : Int => UInt8.ofNat n.toNat) ∘ fun c : UInt8 => (c.toNat : Int)) l = l := fun l => by
      induction l with
      | nil => rfl
      | cons x l ih => rw [List.map_cons, ih]; simp
    simp [ByteArray.empty, ByteArray.emptyWithCapacity]
    exact e l
theorem rseal_any (A : Option Addr) (n c : Nat) (l : List UInt8) (B : Nat) (w : World) (hr : Reads w B 1 A n (u8c l)) (hB : B ≤ w.heap.size) (hn : n ≤ 100000) :
    Calls Tryz.prog 140 #[.slice A n c] w fun e w' => ∃ v, e = .returned v ∧ w'.ownsRow w.heap.size 5 1 v (n + 4) (u8c (sealM l)) ∧ Below w.heap.size w w' := by
  obtain ⟨i0, hi0, hz0, hz1, hz2⟩ := info_parts byte_info
  go_enter Tryz.func140, Tryz.ntmps140
  go_wp2_with (at_builtin; refine wpList_append_any _ rfl (.tmp 3) (.tmp 4) _ rfl w.heap.size 5 i0 _ 1 1 Tryz.underlying22 hi0 hz0 hz1 hz2 rfl (by omega) (.slice (some ⟨w.heap.size, 0, none⟩) 0 0) 0 [] rfl (World.ownsRow_made w #[] 0 (Nat.le_refl _) (by unfold maxLen; omega) rfl) B A n c (u8c l) rfl (hr.alloc hB _) (u8c_one l) (by unfold maxLen; omega) (by omega) (by simp) ?_; intro v1 w1 hown1 hg1 hat1; rw [Nat.zero_add, List.nil_append] at hown1; obtain ⟨A1, c1, rfl⟩ := own_slice hown1)
  have hb1 := ((Below.refl w.heap.size w).alloc (Nat.le_refl _) (.cells #[] 5)).grown hg1 (by simp) (fun k hk => by simp [Value.ownBlock] at hk; omega)
  refine (rsum_any A n c l B w1 (hr.below (hb1.mono hB)) (by have := hb1.size; omega) (by omega)).mono ?_
  rintro e w2 ⟨rfl, hb2⟩
  have hb2' := hb1.trans (hb2.mono hb1.size)
  have hown2 := own_below hown1 hb2
  clear hg1 hat1
  go_wp2_with fail
  refine (rword_any _ w2).mono ?_
  rintro e w3 ⟨v3, rfl, hown3, hb3⟩
  obtain ⟨A3, c3, rfl⟩ := own_slice hown3
  have hb3' := hb2'.trans (hb3.mono hb2'.size)
  have hown4 := own_below hown2 hb3
  have hlt4 := hown4.lt
  go_wp2_with (at_builtin; refine wpList_append_any _ rfl (.tmp 5) (.tmp 8) _ rfl w.heap.size 5 i0 _ 1 1 Tryz.underlying22 hi0 hz0 hz1 hz2 rfl (by omega) (.slice A1 n c1) n (u8c l) rfl hown4 w3.heap.size A3 4 c3 (u8c (wordOf (crcOf 0#32 l))) rfl (Reads.of_own hown3) (u8c_one _) (by unfold maxLen; omega) (by omega) hb3'.size ?_; intro v5 w5 hown5 hg5 hat5)
  go_ret
  refine ⟨_, rfl, ?_, hb3'.grown hg5 hb3'.size (fun k hk => (hlt4 k hk).1)⟩
  unfold sealM; rw [u8c_append]; exact hown5
theorem four_of {l : List UInt8} {n : Nat} (h : l.length = n + 4) : ∃ p a b c d, l = p ++ [a, b, c, d] ∧ p.length = n := by
  refine ⟨l.take n, (l.drop n).getD 0 0, (l.drop n).getD 1 0, (l.drop n).getD 2 0, (l.drop n).getD 3 0, ?_, by simp [h]⟩
  have hd : (l.drop n).length = 4 := by simp [h]
  match hq : l.drop n, hd with
  | [a, b, c, d], _ =>
    have := List.take_append_drop n l
    rw [hq] at this
    simpa using this.symm
theorem Reads.tail {w : World} {B : Nat} {ad : Addr} {n : Nat} {p q : List UInt8} (hp : p.length = n) (h : Reads w B 1 (some ad) (n + q.length) (u8c (p ++ q))) : Reads w B 1 (some (ad.add n)) q.length (u8c q) := by
  refine ⟨by simp [u8c], fun hm => ?_⟩
  obtain ⟨ad', e, hb, hc⟩ := h.2 (by omega)
  injection e with e
  subst e
  refine ⟨_, rfl, by rw [block_of_add]; exact hb, fun j u hu => ?_⟩
  rw [add_of_add]
  apply hc
  rw [u8c_append, List.getElem?_append_right (by rw [u8c_length]; omega), u8c_length, hp, Nat.add_sub_cancel_left]
  exact hu
theorem Reads.head {w : World} {B : Nat} {A : Option Addr} {n m : Nat} {p q : List UInt8} (hp : p.length = n) (h : Reads w B 1 A m (u8c (p ++ q))) (hnm : n ≤ m) : Reads w B 1 A n (u8c p) := by
  refine ⟨by simp [u8c, hp], fun hn => ?_⟩
  obtain ⟨ad', e, hb, hc⟩ := h.2 (by omega)
  refine ⟨ad', e, hb, fun j u hu => ?_⟩
  apply hc
  rw [u8c_append, List.getElem?_append_left (List.getElem?_eq_some_iff.1 hu).1]
  exact hu
theorem cut_tail (ad : Addr) (n m c : Nat) (h : n ≤ m) (hc : ¬ c = n) (W : World) : (Instr.slice 22 (.slice (some ad) m c) (some (.int .i64 (n : Int))) none none).run Tryz.prog W = .ok (.slice (some (ad.add n)) (m - n) (c - n)) W := by
  rw [run_slice_l (P := Tryz.prog) (w := W) 22 _ _ _ (by kernel_rfl) .i64 n (by omega) (by omega)]
  have hs : (sizeOf ((Tryz.prog).elem 22)).run Tryz.prog W = .ok 1 W := by kernel_rfl
  rw [hs]
  simp [Result.andThen, sliced, hc]
theorem cut_head (ad : Addr) (n m c : Nat) (h : n ≤ c) (W : World) : (Instr.slice 22 (.slice (some ad) m c) none (some (.int .i64 (n : Int))) none).run Tryz.prog W = .ok (.slice (some ad) n c) W := by
  rw [run_slice_h (P := Tryz.prog) (w := W) 22 _ _ _ (by kernel_rfl) .i64 n (by omega) (by omega)]
  have hs : (sizeOf ((Tryz.prog).elem 22)).run Tryz.prog W = .ok 1 W := by kernel_rfl
  rw [hs]
  simp [Result.andThen, sliced, Addr.add]
theorem rvalid_any (ad : Addr) (N n c : Nat) (p : List UInt8) (a b c' d : UInt8) (B : Nat) (w : World) (hN : N = n + 4) (hp : p.length = n) (hr : Reads w B 1 (some ad) N (u8c (p ++ [a, b, c', d]))) (hB : B ≤ w.heap.size) (hc : N ≤ c) (hn : n ≤ 1000) :
    Calls Tryz.prog 71 #[.slice (some ad) N c] w fun e w' => e = .returned (.bool (crcOf 0#32 (p ++ [a, b, c', d]) == 0#32)) ∧ Below w.heap.size w w' := by
  have hv := crc_valid p a b c' d
  have h4 : (4 : Int) ≤ (N : Int) := by omega
  have hx1 := fun W => cut_tail ad n N c (by omega) (by omega) W
  rw [show N - n = 4 by omega] at hx1
  have hx2 := fun W => cut_head ad n N c (by omega) W
  have hw1 : IntKind.i64.wrap ((N : Int) - 4) = (n : Int) := by rw [IntWalk.i64_in _ (by omega)]; omega
  rw [hN] at hr
  have Hr := Lib.hid hr.drew
  have Hp := Lib.hid hp
  have Hv := Lib.hid hv
  have Hn := Lib.hid hn
  have HB := Lib.hid hB
  have HN := Lib.hid hN
  clear hr hp hv hn hN hB hc
  go_enter Tryz.func71, Tryz.ntmps71
  go_wp2_with fail
  go_region_held (fun w' => (convert 22 9 (.slice (some (ad.add n)) 4 (c - n))).run Tryz.prog w' = .ok (.string ⟨[a, b, c', d].toArray⟩) w') (with_reducible (first | exact conv_reads (Reads.tail Hp.out Hr.out))) (first
    | (go_at_call 92; refine (rsum_any _ n c p B _ (Reads.head Hp.out Hr.out (by omega)) HB.out (by have := Hn.out; omega)).mono ?_; rintro e W1 ⟨rfl, hb1⟩; have Hr1 := Lib.hid (Hr.out.below (hb1.mono HB.out)); clear Hr; have Hr := Hr1; clear Hr1)
    | (go_at_call 91; refine (rword_any _ _).mono ?_; rintro e W2 ⟨v, rfl, hown, hb2⟩; have hs1 := hb1.size; have hs2 : B ≤ W1.heap.size := Nat.le_trans HB.out hs1; have Hr2 := Lib.hid (Hr.out.below (hb2.mono hs2)); clear Hr; have Hr := Hr2; clear Hr2; obtain ⟨A3, c3, hv3⟩ := own_slice hown; subst hv3; have hcv := conv_reads (c := c3) (Reads.of_own hown)))
  all_goals
    go_wp2_with fail
    go_ret
    refine ⟨?_, ((Below.refl w.heap.size w).drew.trans hb1).trans (hb2.mono (show w.heap.size ≤ W1.heap.size from hs1))⟩
    have e : ([a, b, c', d] == wordOf (crcOf 0#32 p)) = (crcOf 0#32 (p ++ [a, b, c', d]) == 0#32) := by
      rw [Bool.eq_iff_iff]
      simp only [beq_iff_eq]
      exact Hv.out.symm
    exact congrArg (fun x => Ending.returned (Value.bool x)) e
end Go.Proofs.YtlldgfejcjnpkaaGreat
/- gate's functions by their contracts. -/
namespace Go.Proofs.YtlldgfejcjnpkaaGreat
open Go.RowKit
set_option maxHeartbeats 4000000
set_option maxRecDepth 100000

theorem gateClosure_any (pc pg pf gb : Nat) (code : Int) (x0 x1 x2 : Value) (t1 t2 t3 t4 : TypeId) (w : World) (hc : Blk w pc t1 #[.int .i64 code]) (hg : Blk w pg t2 #[.pointer (some ⟨gb, 0, none⟩)]) (hf : Blk w pf t3 #[.bool false])
    (hb : Blk w gb t4 #[x0, x1, x2]) (n1 : ¬ gb = pf) :
    Calls Tryz.prog 204 #[.pointer (some ⟨pc, 0, none⟩), .pointer (some ⟨pg, 0, none⟩), .pointer (some ⟨pf, 0, none⟩)] w fun e w' => e = .returned (.tuple #[]) ∧ w' = (w.setCell ⟨gb, 1, none⟩ (.int .i64 code)).setCell ⟨pf, 0, none⟩ (.bool true) := by
  have hcc := hc.cell
  have hgc := hg.cell
  have hfc := hf.cell
  have hff := hf.frozen
  have hbc := hb.cell
  have hbf := hb.frozen
  have n2 : ¬ pf = gb := fun h => n1 h.symm
  go_enter Tryz.func204, Tryz.ntmps204
  go_wp2_with fail
  go_end0
  exact ⟨rfl, rfl⟩
theorem onceSlow_any (ob pc pg pf gb : Nat) (code : Int) (s x0 x1 x2 : Value) (t1 t2 t3 t4 t5 : TypeId) (w : World) (ho : Blk w ob t5 #[.int .u32 0, .int .i32 0, s]) (hc : Blk w pc t1 #[.int .i64 code]) (hg : Blk w pg t2 #[.pointer (some ⟨gb, 0, none⟩)]) (hf : Blk w pf t3 #[.bool false])
    (hb : Blk w gb t4 #[x0, x1, x2]) (n1 : ¬ gb = pf) (n2 : ¬ ob = gb) (n3 : ¬ ob = pf) (n4 : ¬ ob = pc) (n5 : ¬ ob = pg) :
    Calls Tryz.prog 220 #[.pointer (some ⟨ob, 0, none⟩), .func (.func 204) #[] #[.pointer (some ⟨pc, 0, none⟩), .pointer (some ⟨pg, 0, none⟩), .pointer (some ⟨pf, 0, none⟩)]] w fun e w' => e = .returned (.tuple #[]) ∧
      w' = (((((w.setCell ⟨ob, 1, none⟩ (.int .i32 1)).setCell ⟨gb, 1, none⟩ (.int .i64 code)).setCell ⟨pf, 0, none⟩ (.bool true)).drew.setCell ⟨ob, 0, none⟩ (.int .u32 1)).setCell ⟨ob, 1, none⟩ (.int .i32 0)) := by
  have hol : Blk (w.setCell ⟨ob, 1, none⟩ (.int .i32 1)) ob t5 #[.int .u32 0, .int .i32 1, s] := by simpa using ho.set_ 1 (.int .i32 1)
  have h0 : (w.setCell ⟨ob, 1, none⟩ (.int .i32 1)).cell? ⟨ob, 0, none⟩ = some (.int .u32 0) := (hol.cell 0).trans rfl
  have hl := run_call_load (P := Tryz.prog) Tryz.func207 (by kernel_rfl) (by kernel_rfl) (by kernel_rfl) .u32 (by kernel_rfl) h0
  have hnot : ∀ (x : Bool) (w : World), (Op.unary .not (.bool x)).run Tryz.prog w = .ok (.bool (!x)) w := fun _ _ => rfl
  have hc1 := hc.far (p := ⟨ob, 1, none⟩) (fun h => n4 h.symm) (.int .i32 1)
  have hg1 := hg.far (p := ⟨ob, 1, none⟩) (fun h => n5 h.symm) (.int .i32 1)
  have hf1 := hf.far (p := ⟨ob, 1, none⟩) (fun h => n3 h.symm) (.int .i32 1)
  have hb1 := hb.far (p := ⟨ob, 1, none⟩) (fun h => n2 h.symm) (.int .i32 1)
  have hcl := gateClosure_any pc pg pf gb code x0 x1 x2 t1 t2 t3 t4 _ hc1 hg1 hf1 hb1 n1
  have ho2 := (hol.far (p := ⟨gb, 1, none⟩) n2 (.int .i64 code)).far (p := ⟨pf, 0, none⟩) n3 (.bool true)
  go_enter_defers Tryz.func220, Tryz.ntmps220
  go_wp2_with (go_at_call 228; refine (lock_free ⟨ob, 1, none⟩ _ ((ho.cell 1).trans rfl) (ho.frozen 1)).mono ?_; rintro e w' ⟨rfl, rfl⟩)
  go_wp2_with (go_at_call 182; go_in)
  refine hcl.mono ?_
  rintro e w' ⟨rfl, rfl⟩
  go_wp2_with fail
  refine leaves_cons (f := 161) (args := #[.pointer (some ⟨ob, 0, none⟩), .bool true]) (by simp) (by simp [go_sem]) ?_
  refine (boolStore_deferred ⟨ob, 0, none⟩ (.int .u32 0) .returning _ ((ho2.cell 0).trans rfl) (ho2.frozen 0)).mono ?_
  rintro e u' w'' ⟨rfl, rfl, rfl⟩
  have ho3 : Blk ((((w.setCell ⟨ob, 1, none⟩ (.int .i32 1)).setCell ⟨gb, 1, none⟩ (.int .i64 code)).setCell ⟨pf, 0, none⟩ (.bool true)).drew.setCell ⟨ob, 0, none⟩ (.int .u32 1)) ob t5 #[.int .u32 1, .int .i32 1, s] := by simpa using ho2.drew.set_ 0 (.int .u32 1)
  refine leaves_cons (f := 229) (args := #[.pointer (some ⟨ob, 1, none⟩)]) (by simp [settle]) (by simp [go_sem]) ?_
  refine (unlock_deferred ⟨ob, 1, none⟩ _ _ ((ho3.cell 1).trans rfl) (ho3.frozen 1)).mono ?_
  rintro e u' w'' ⟨rfl, rfl, rfl⟩
  simp [Leaves, settle, results, Tryz.results220]
theorem onceDo_first (ob pc pg pf gb : Nat) (code : Int) (s x0 x1 x2 : Value) (t1 t2 t3 t4 t5 : TypeId) (w : World) (ho : Blk w ob t5 #[.int .u32 0, .int .i32 0, s]) (hc : Blk w pc t1 #[.int .i64 code]) (hg : Blk w pg t2 #[.pointer (some ⟨gb, 0, none⟩)]) (hf : Blk w pf t3 #[.bool false])
    (hb : Blk w gb t4 #[x0, x1, x2]) (n1 : ¬ gb = pf) (n2 : ¬ ob = gb) (n3 : ¬ ob = pf) (n4 : ¬ ob = pc) (n5 : ¬ ob = pg) :
    Calls Tryz.prog 203 #[.pointer (some ⟨ob, 0, none⟩), .func (.func 204) #[] #[.pointer (some ⟨pc, 0, none⟩), .pointer (some ⟨pg, 0, none⟩), .pointer (some ⟨pf, 0, none⟩)]] w fun e w' => e = .returned (.tuple #[]) ∧
      w' = (((((w.setCell ⟨ob, 1, none⟩ (.int .i32 1)).setCell ⟨gb, 1, none⟩ (.int .i64 code)).setCell ⟨pf, 0, none⟩ (.bool true)).drew.setCell ⟨ob, 0, none⟩ (.int .u32 1)).setCell ⟨ob, 1, none⟩ (.int .i32 0)) := by
  have h0 : w.cell? ⟨ob, 0, none⟩ = some (.int .u32 0) := (ho.cell 0).trans rfl
  have hl := run_call_load (P := Tryz.prog) Tryz.func207 (by kernel_rfl) (by kernel_rfl) (by kernel_rfl) .u32 (by kernel_rfl) h0
  have hnot : ∀ (x : Bool) (w : World), (Op.unary .not (.bool x)).run Tryz.prog w = .ok (.bool (!x)) w := fun _ _ => rfl
  go_enter Tryz.func203, Tryz.ntmps203
  go_wp2_with (first | (go_at_call 220; refine (onceSlow_any ob pc pg pf gb code s x0 x1 x2 t1 t2 t3 t4 t5 _ ho hc hg hf hb n1 n2 n3 n4 n5).mono ?_; rintro e w' ⟨rfl, rfl⟩) | (go_at_call 182; go_in))
  go_end0
  exact ⟨rfl, rfl⟩

/-- A gate and its Once: blocks b and o; what is latched. -/
structure GateIs (w : World) (b o : Nat) (code : Int) : Prop where
  gate : ∃ n, Blk w b 262 #[.pointer (some ⟨o, 0, none⟩), .int .i64 code, .int .i64 n]
  once : ∃ s, Blk w o 292 #[.int .u32 (if code = 0 then 0 else 1), .int .i32 0, s]
theorem GateIs.ne {w : World} {b o : Nat} {code : Int} (h : GateIs w b o code) : b ≠ o := by
  obtain ⟨⟨n, h1⟩, ⟨s, h2⟩⟩ := h
  exact h1.ne_ h2 (by decide)
theorem GateIs.keep {w w' : World} {b o : Nat} {code : Int} {S : Nat → Prop} (h : GateIs w b o code) (hk : Keep S w w') (hb : ¬ S b) (ho : ¬ S o) : GateIs w' b o code := by
  obtain ⟨⟨n, h1⟩, ⟨s, h2⟩⟩ := h
  exact ⟨⟨n, h1.keep hk hb⟩, ⟨s, h2.keep hk ho⟩⟩
theorem gateNew_any (w : World) : Calls Tryz.prog 145 #[] w fun e w' => e = .returned (.pointer (some ⟨w.heap.size + 1, 0, none⟩)) ∧ GateIs w' (w.heap.size + 1) w.heap.size 0 ∧ Below w.heap.size w w' ∧ w'.heap.size = w.heap.size + 2 := by
  go_enter Tryz.func145, Tryz.ntmps145
  go_wp2_with fail
  go_ret
  refine ⟨rfl, ⟨⟨0, ?_⟩, ⟨.int .u32 0, ?_⟩⟩, ((Below.refl _ _).alloc (Nat.le_refl _) _).alloc (by simp) _, by simp⟩
  · exact Blk.new' _ _ _ (by simp)
  · exact (Blk.new w _ _).alloc _
theorem gateCode_any (b o : Nat) (code : Int) (w : World) (h : GateIs w b o code) : Calls Tryz.prog 117 #[.pointer (some ⟨b, 0, none⟩)] w fun e w' => e = .returned (.int .i64 code) ∧ w' = w := by
  obtain ⟨⟨n, h1⟩, _⟩ := h
  have hc := h1.cell
  go_enter Tryz.func117, Tryz.ntmps117
  go_wp2_with fail
  go_ret
  exact ⟨rfl, rfl⟩
end Go.Proofs.YtlldgfejcjnpkaaGreat
/- gate.Trip and gate.Lift by their contracts. -/
namespace Go.Proofs.YtlldgfejcjnpkaaGreat
open Go.RowKit
set_option maxHeartbeats 4000000
set_option maxRecDepth 100000

theorem int64Add_any (a : Addr) (n : Int) (w : World) (hc : w.cell? a = some (.int .i64 n)) (hz : w.frozen? a = false) :
    Calls Tryz.prog 202 #[.pointer (some a), .int .i64 1] w fun e w' => e = .returned (.int .i64 (IntKind.i64.wrap (n + 1))) ∧ w' = w.setCell a (.int .i64 (IntKind.i64.wrap (n + 1))) := by
  have hadd := run_call_add (P := Tryz.prog) Tryz.func219 (by kernel_rfl) (by kernel_rfl) (by kernel_rfl) .i64 (by kernel_rfl) (x := n) (y := 1) (s := IntKind.i64.wrap (n + 1)) hc hz (by simp [go_sem])
  generalize IntKind.i64.wrap (n + 1) = m at *
  go_enter Tryz.func202, Tryz.ntmps202
  go_wp2
  go_ret
  exact ⟨rfl, rfl⟩
theorem int64Store_any (a : Addr) (n m : Int) (w : World) (hc : w.cell? a = some (.int .i64 n)) (hz : w.frozen? a = false) :
    Calls Tryz.prog 193 #[.pointer (some a), .int .i64 m] w fun e w' => e = .returned (.tuple #[]) ∧ w' = w.setCell a (.int .i64 m) := by
  have hst := run_call_store (P := Tryz.prog) Tryz.func217 (by kernel_rfl) (by kernel_rfl) (by kernel_rfl) (by kernel_rfl) (k := .i64) (y := m) hc hz
  go_enter Tryz.func193, Tryz.ntmps193
  go_wp2
  go_end0
  exact ⟨rfl, rfl⟩
theorem gateTrip_any (b o : Nat) (old code : Int) (w : World) (hcode : code ≠ 0) (h : GateIs w b o old) :
    Calls Tryz.prog 174 #[.pointer (some ⟨b, 0, none⟩), .int .i64 code] w fun e w' => e = .returned (.bool (old == 0)) ∧ GateIs w' b o (if old = 0 then code else old) ∧ Keep (fun x => x = b ∨ x = o) w w' := by
  have hbo := h.ne
  obtain ⟨⟨n, hb⟩, ⟨s, ho⟩⟩ := h
  have hmf : ∀ (fn : Fn) (first cap : Array Value) (w : World), (Instr.makeFunc fn first cap).run Tryz.prog w = .ok (.func fn first cap) w := fun _ _ _ _ => rfl
  have hb1 := (hb.alloc (.cells #[.pointer (some ⟨b, 0, none⟩)] 214)).alloc (.cells #[.int .i64 code] 25)
  have ho1 := (ho.alloc (.cells #[.pointer (some ⟨b, 0, none⟩)] 214)).alloc (.cells #[.int .i64 code] 25)
  have hp1 := (Blk.new w 214 #[.pointer (some ⟨b, 0, none⟩)]).alloc (.cells #[.int .i64 code] 25)
  have hq1 := Blk.new' (w.alloc (.cells #[.pointer (some ⟨b, 0, none⟩)] 214)) 25 #[.int .i64 code] (g := w.heap.size + 1) (by simp)
  have hlb := hb.lt
  have hlo := ho.lt
  have hcod : (code == 0) = false := by simpa using hcode
  have hk1 : Keep (fun x => x = b ∨ x = o) w ((w.alloc (.cells #[.pointer (some ⟨b, 0, none⟩)] 214)).alloc (.cells #[.int .i64 code] 25)) := ((Keep.refl _ w).alloc _).alloc _
  have hsz1 : ((w.alloc (.cells #[.pointer (some ⟨b, 0, none⟩)] 214)).alloc (.cells #[.int .i64 code] 25)).heap.size = w.heap.size + 2 := by simp
  have Hbo := Lib.hid hbo
  clear hbo hcode
  go_enter Tryz.func174, Tryz.ntmps174
  go_wp2_with fail
  refine (int64Add_any ⟨b, 2, none⟩ n _ ((hb1.cell 2).trans rfl) (hb1.frozen 2)).mono ?_
  rintro e W ⟨rfl, hW⟩
  have hb2 : Blk W b 262 #[.pointer (some ⟨o, 0, none⟩), .int .i64 old, .int .i64 (IntKind.i64.wrap (n + 1))] := by
    rw [hW]
    simpa using hb1.set_ 2 (.int .i64 (IntKind.i64.wrap (n + 1)))
  have ho2 : Blk W o 292 _ := hW ▸ ho1.far (p := ⟨b, 2, none⟩) (fun h => Hbo.out h.symm) (.int .i64 (IntKind.i64.wrap (n + 1)))
  have hp2 : Blk W w.heap.size 214 _ := hW ▸ hp1.far (p := ⟨b, 2, none⟩) (by simp; omega) (.int .i64 (IntKind.i64.wrap (n + 1)))
  have hq2 : Blk W (w.heap.size + 1) 25 _ := hW ▸ hq1.far (p := ⟨b, 2, none⟩) (by simp; omega) (.int .i64 (IntKind.i64.wrap (n + 1)))
  have hk2 : Keep (fun x => x = b ∨ x = o) w W := hW ▸ hk1.setCell (p := ⟨b, 2, none⟩) (fun _ => .inl rfl) (.int .i64 (IntKind.i64.wrap (n + 1)))
  have hsz2 : W.heap.size = w.heap.size + 2 := by rw [hW]; simp [World.setCell]
  clear hW hb1 ho1 hp1 hq1 hk1 hsz1 hb ho
  generalize IntKind.i64.wrap (n + 1) = m at *
  obtain ⟨p, hp⟩ : ∃ p, p = w.heap.size := ⟨_, rfl⟩
  have Hp := Lib.hid hp
  rw [← hp] at hp2 hq2 hsz2 ⊢
  clear hp
  have Hsz := Lib.hid hsz2
  clear hsz2
  have hc1 := hp2.cell
  have hc2 := hq2.cell
  have hc3 := hb2.cell
  have hc4 : ∀ o i, (W.alloc o).cell? ⟨p, i, none⟩ = (#[Value.pointer (some ⟨b, 0, none⟩)] : Array Value)[i]? := fun o i => (hp2.alloc o).cell i
  have hc5 : ∀ ob i, (W.alloc ob).cell? ⟨b, i, none⟩ = (#[Value.pointer (some ⟨o, 0, none⟩), .int .i64 old, .int .i64 m] : Array Value)[i]? := fun ob i => (hb2.alloc ob).cell i
  by_cases h0 : old = 0
  · subst h0
    go_wp2_with fail
    have hsz2 := Hsz.out
    have hpw := Hp.out
    have ho3 : Blk W o 292 #[.int .u32 0, .int .i32 0, s] := by simpa using ho2
    have d1 : ¬ b = W.heap.size := by omega
    have d2 : ¬ o = b := fun h => Hbo.out h.symm
    have d3 : ¬ o = W.heap.size := by omega
    have d4 : ¬ o = p + 1 := by omega
    have d5 : ¬ o = p := by omega
    refine (onceDo_first o (p + 1) p W.heap.size b code s (.pointer (some ⟨o, 0, none⟩)) (.int .i64 0) (.int .i64 m) 25 214 4 262 292 _ (ho3.alloc _) (hq2.alloc _) (hp2.alloc _) (Blk.new W 4 #[.bool false]) (hb2.alloc _) d1 d2 d3 d4 d5).mono ?_
    rintro e W3 ⟨rfl, hW⟩
    have hb3 : Blk W3 b 262 #[.pointer (some ⟨o, 0, none⟩), .int .i64 code, .int .i64 m] := by
      rw [hW]
      have := (((((hb2.alloc (.cells #[.bool false] 4)).far (p := ⟨o, 1, none⟩) (fun h => d2 h.symm) (.int .i32 1)).set_ 1 (.int .i64 code)).far (p := ⟨W.heap.size, 0, none⟩) d1 (.bool true)).drew.far (p := ⟨o, 0, none⟩) (fun h => d2 h.symm) (.int .u32 1)).far (p := ⟨o, 1, none⟩) (fun h => d2 h.symm) (.int .i32 0)
      simpa using this
    have ho4 : Blk W3 o 292 #[.int .u32 1, .int .i32 0, s] := by
      rw [hW]
      have := (((((ho3.alloc (.cells #[.bool false] 4)).set_ 1 (.int .i32 1)).far (p := ⟨b, 1, none⟩) d2 (.int .i64 code)).far (p := ⟨W.heap.size, 0, none⟩) d3 (.bool true)).drew.set_ 0 (.int .u32 1)).set_ 1 (.int .i32 0)
      simpa using this
    have hf3 : Blk W3 W.heap.size 4 #[.bool true] := by
      rw [hW]
      have := (((((Blk.new W 4 #[.bool false]).far (p := ⟨o, 1, none⟩) (fun h => d3 h.symm) (.int .i32 1)).far (p := ⟨b, 1, none⟩) (fun h => d1 h.symm) (.int .i64 code)).set_ 0 (.bool true)).drew.far (p := ⟨o, 0, none⟩) (fun h => d3 h.symm) (.int .u32 1)).far (p := ⟨o, 1, none⟩) (fun h => d3 h.symm) (.int .i32 0)
      simpa using this
    have hk3 : Keep (fun x => x = b ∨ x = o) w W3 := by
      rw [hW]
      exact ((((((hk2.alloc _).setCell (p := ⟨o, 1, none⟩) (fun _ => .inr rfl) _).setCell (p := ⟨b, 1, none⟩) (fun _ => .inl rfl) _).setCell (p := ⟨W.heap.size, 0, none⟩) (fun h => by simp at h; omega) _).drew).setCell (p := ⟨o, 0, none⟩) (fun _ => .inr rfl) _).setCell (p := ⟨o, 1, none⟩) (fun _ => .inr rfl) _
    clear hW hsz2 hpw
    have hcf := hf3.cell
    go_wp2_with fail
    go_ret
    exact ⟨rfl, ⟨⟨m, hb3⟩, ⟨s, by rw [if_neg (by simpa using hcod)]; exact ho4⟩⟩, hk3⟩
  · go_wp2_with fail
    have ho3 : Blk W o 292 #[.int .u32 1, .int .i32 0, s] := by rw [if_neg h0] at ho2; exact ho2
    refine (onceDo_done ⟨o, 0, none⟩ _ _ (((ho3.alloc _).cell 0).trans rfl)).mono ?_
    rintro e W3 ⟨rfl, rfl⟩
    go_wp2_with fail
    go_ret
    refine ⟨?_, ⟨⟨m, ?_⟩, ⟨s, ?_⟩⟩, hk2.alloc _⟩
    · have : (old == 0) = false := by simpa using h0
      rw [this]
      rfl
    · exact hb2.alloc _
    · rw [if_neg h0]
      exact ho3.alloc _
theorem gateLift_any (b o : Nat) (old : Int) (w : World) (h : GateIs w b o old) :
    Calls Tryz.prog 160 #[.pointer (some ⟨b, 0, none⟩)] w fun e w' => e = .returned (.int .i64 old) ∧ GateIs w' b w.heap.size 0 ∧ Keep (fun x => x = b) w w' ∧ w'.heap.size = w.heap.size + 1 := by
  obtain ⟨⟨n, hb⟩, _⟩ := h
  have hlb := hb.lt
  have hbc := hb.cell
  have hbf := hb.frozen
  have hbA : ∀ ob i, (w.alloc ob).cell? ⟨b, i, none⟩ = (#[Value.pointer (some ⟨o, 0, none⟩), .int .i64 old, .int .i64 n] : Array Value)[i]? := fun ob i => (hb.alloc ob).cell i
  have hbB : ∀ ob i, (w.alloc ob).frozen? ⟨b, i, none⟩ = false := fun ob i => (hb.alloc ob).frozen i
  go_enter Tryz.func160, Tryz.ntmps160
  go_wp2_with fail
  have hx : Blk (((w.setCell ⟨b, 0, none⟩ (.pointer (some ⟨w.heap.size, 0, none⟩))).setCell ⟨b, 1, none⟩ (.int .i64 0)).alloc (.cells #[.int .u32 0, .int .i32 0, .int .u32 0] 292)) b 262 #[.pointer (some ⟨w.heap.size, 0, none⟩), .int .i64 0, .int .i64 n] := by
    simpa using ((hb.set_ 0 (.pointer (some ⟨w.heap.size, 0, none⟩))).set_ 1 (.int .i64 0)).alloc (.cells #[.int .u32 0, .int .i32 0, .int .u32 0] 292)
  refine (int64Store_any ⟨b, 2, none⟩ n 0 _ ((hx.cell 2).trans rfl) (hx.frozen 2)).mono ?_
  rintro e W ⟨rfl, hW⟩
  have hy : Blk W b 262 #[.pointer (some ⟨w.heap.size, 0, none⟩), .int .i64 0, .int .i64 0] := by
    rw [hW]
    simpa using hx.set_ 2 (.int .i64 0)
  have hz : Blk W w.heap.size 292 #[.int .u32 0, .int .i32 0, .int .u32 0] := by
    rw [hW]
    exact (Blk.new' _ _ _ (by simp [World.setCell])).far (by simp; omega) _
  have hk : Keep (fun x => x = b) w W := by
    rw [hW]
    exact ((((Keep.refl (fun x => x = b) w).setCell (p := ⟨b, 0, none⟩) (fun _ => rfl) _).setCell (p := ⟨b, 1, none⟩) (fun _ => rfl) _).alloc _).setCell (p := ⟨b, 2, none⟩) (fun _ => rfl) _
  have hs : W.heap.size = w.heap.size + 1 := by rw [hW]; simp [World.setCell]
  clear hW
  have Hs := Lib.hid hs
  clear hs
  go_wp2_with fail
  go_ret
  exact ⟨rfl, ⟨⟨0, hy⟩, ⟨_, hz⟩⟩, hk, Hs.out⟩
end Go.Proofs.YtlldgfejcjnpkaaGreat
