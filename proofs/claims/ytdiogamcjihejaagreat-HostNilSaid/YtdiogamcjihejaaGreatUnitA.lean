/- unit's forms and laws by their contracts. -/
import Derived.Test.YtdiogamcjihejaaGreatEndM
import Derived.Test.YtdiogamcjihejaaGreatBytes
namespace Go.Proofs.YtdiogamcjihejaaGreat
open Go.RowKit
set_option maxHeartbeats 4000000
set_option maxRecDepth 100000

/-- What each kind of unit looks like. -/
def formM (k : Int) : (Int × Int × Int × Bool) × Bool :=
  if k = 1 then ((0, 0, 1, false), true) else if k = 2 ∨ k = 17 then ((1, 0, 1, false), true) else if k = 3 ∨ k = 18 ∨ k = 19 then ((1, 0, 0, false), true)
  else if k = 4 ∨ k = 20 then ((1, 1, 2, true), true) else if k = 5 ∨ k = 21 then ((1, 1, 0, false), true) else if k = 22 then ((2, 0, 0, false), true) else ((0, 0, 0, false), false)
def formVal (f : Int × Int × Int × Bool) : Value := .agg #[.int .i64 f.1, .int .i64 f.2.1, .int .i64 f.2.2.1, .bool f.2.2.2]
theorem formOf_any (k : Int) (w : World) : Calls Tryz.prog 214 #[.int .i64 k] w fun e w' => e = .returned (.tuple #[formVal (formM k).1, .bool (formM k).2]) ∧ Below w.heap.size w w' := by
  by_cases hk : k = 1 ∨ k = 2 ∨ k = 17 ∨ k = 3 ∨ k = 18 ∨ k = 19 ∨ k = 4 ∨ k = 20 ∨ k = 5 ∨ k = 21 ∨ k = 22
  · rcases hk with rfl | rfl | rfl | rfl | rfl | rfl | rfl | rfl | rfl | rfl | rfl
    all_goals
      go_enter Tryz.func214, Tryz.ntmps214
      go_wp2_with fail
      refine bodyPost_ret (v := _) (by simp [results, Tryz.results214, go_sem]; exact ⟨rfl, rfl⟩) rfl ⟨rfl, ?_⟩
      exact (Below.refl _ _).alloc (Nat.le_refl _) _
  · simp only [not_or] at hk
    obtain ⟨h1, h2, h3, h4, h5, h6, h7, h8, h9, h10, h11⟩ := hk
    have e : formM k = ((0, 0, 0, false), false) := by simp [formM, h1, h2, h3, h4, h5, h6, h7, h8, h9, h10, h11]
    rw [e]
    have g1 : (k == 1) = false := by simpa using h1
    have g2 : (k == 2) = false := by simpa using h2
    have g3 : (k == 17) = false := by simpa using h3
    have g4 : (k == 3) = false := by simpa using h4
    have g5 : (k == 18) = false := by simpa using h5
    have g6 : (k == 19) = false := by simpa using h6
    have g7 : (k == 4) = false := by simpa using h7
    have g8 : (k == 20) = false := by simpa using h8
    have g9 : (k == 5) = false := by simpa using h9
    have g10 : (k == 21) = false := by simpa using h10
    have g11 : (k == 22) = false := by simpa using h11
    clear h1 h2 h3 h4 h5 h6 h7 h8 h9 h10 h11
    go_enter Tryz.func214, Tryz.ntmps214
    go_wp2_with fail
    refine bodyPost_ret (v := .tuple #[formVal (0, 0, 0, false), .bool false]) (by simp [results, Tryz.results214, go_sem, formVal]) rfl ⟨rfl, ?_⟩
    exact (Below.refl _ _).alloc (Nat.le_refl _) _
def lenM (d n : Int) : Bool := if d = 1 then n == 4 else if d = 2 then decide (1 ≤ n) && decide (n ≤ 8) else n == 0
theorem unitLength_any (s n d : Int) (f : Bool) (m : Int) (w : World) : Calls Tryz.prog 215 #[formVal (s, n, d, f), .int .i64 m] w fun e w' => e = .returned (.bool (lenM d m)) ∧ Below w.heap.size w w' := by
  unfold formVal
  have hb : ∀ cs t, Below w.heap.size w (w.alloc (.cells cs t)) := fun cs t => (Below.refl _ _).alloc (Nat.le_refl _) _
  by_cases h1 : d = 1
  · subst h1
    go_enter Tryz.func215, Tryz.ntmps215
    go_wp2_with fail
    go_ret
    exact ⟨rfl, hb _ _⟩
  · have g1 : (d == 1) = false := by simpa using h1
    by_cases h2 : d = 2
    · subst h2
      by_cases h3 : 1 ≤ m
      · go_enter Tryz.func215, Tryz.ntmps215
        go_wp2_with fail
        go_ret
        exact ⟨by simp [lenM, h3], hb _ _⟩
      · go_enter Tryz.func215, Tryz.ntmps215
        go_wp2_with fail
        go_ret
        exact ⟨by simp [lenM]; omega, hb _ _⟩
    · have g2 : (d == 2) = false := by simpa using h2
      go_enter Tryz.func215, Tryz.ntmps215
      go_wp2_with fail
      go_ret
      exact ⟨by simp [lenM, h1, h2], hb _ _⟩
def fitsM (want n : Int) : Bool := want == 2 || ((want == 1) == decide (0 < n))
theorem unitFits_any (want n : Int) (w : World) : Calls Tryz.prog 216 #[.int .i64 want, .int .u32 n] w fun e w' => e = .returned (.bool (fitsM want n)) ∧ w' = w := by
  by_cases h1 : want = 2
  · subst h1
    go_enter Tryz.func216, Tryz.ntmps216
    go_wp2_with fail
    go_ret
    exact ⟨by simp [fitsM], rfl⟩
  · have g1 : (want == 2) = false := by simpa using h1
    go_enter Tryz.func216, Tryz.ntmps216
    go_wp2_with fail
    go_ret
    exact ⟨by simp [fitsM, g1], rfl⟩
def unitVal (u : UnitM) (v : Value) : Value := .agg #[.int .i64 u.kind, .int .u32 u.code, .int .u32 u.session, .int .u32 u.number, .int .i64 u.flags, v]
def lawM (s n d : Int) (f is : Bool) (u : UnitM) : Int :=
  if !is then 43 else if u.code == 0 then 44 else if !lenM d u.data.length then 45 else if !fitsM s u.session then 46 else if !fitsM n u.number then 47
  else if decide (u.flags < 0) || decide (15 < u.flags) || (!f && u.flags != 0) then 48 else 0
theorem lawM_eq (u : UnitM) (hs : 0 ≤ u.session) (hn : 0 ≤ u.number) : lawM (formM u.kind).1.1 (formM u.kind).1.2.1 (formM u.kind).1.2.2.1 (formM u.kind).1.2.2.2 (formM u.kind).2 u = u.lawful := by
  obtain ⟨kind, code, session, number, flags, data⟩ := u
  simp only at hs hn ⊢
  have e1 : decide (0 < session) = (session != 0) := by
    by_cases h : session = 0
    · subst h; rfl
    · have : 0 < session := by omega
      simp [h, this]
  have e2 : decide (0 < number) = (number != 0) := by
    by_cases h : number = 0
    · subst h; rfl
    · have : 0 < number := by omega
      simp [h, this]
  have e3 : (decide (flags < 0) || decide (15 < flags)) = !decide (0 ≤ flags ∧ flags ≤ 15) := by
    by_cases h1 : flags < 0
    · have : ¬ 0 ≤ flags := by omega
      simp [h1, this]
    · by_cases h2 : 15 < flags
      · have : ¬ flags ≤ 15 := by omega
        simp [h2, this]
      · have g1 : 0 ≤ flags := by omega
        have g2 : flags ≤ 15 := by omega
        simp [h1, h2, g1, g2]
  have e4 : (decide ((1 : Int) ≤ data.length) && decide ((data.length : Int) ≤ 8)) = decide (1 ≤ data.length ∧ data.length ≤ 8) := by
    rw [Bool.eq_iff_iff]
    simp
    omega
  have e5 : ((data.length : Int) == 4) = (data.length == 4) := by rw [Bool.eq_iff_iff]; simp; omega
  have e6 : ((data.length : Int) == 0) = (data.length == 0) := by rw [Bool.eq_iff_iff]; simp
  have e7 : (session == 0) = !(session != 0) := by simp [bne]
  have e8 : (flags == 0) = !(flags != 0) := by simp [bne]
  unfold UnitM.lawful lawM fitsM flagOk numOk sessOk dataOk lenM
  simp only [e1, e2, e3, e4, e5, e6, e7, e8]
  generalize (session != 0) = q1
  generalize (number != 0) = q2
  generalize (flags != 0) = q3
  generalize (data.length == 4) = q4
  generalize (data.length == 0) = q5
  generalize decide (1 ≤ data.length ∧ data.length ≤ 8) = q6
  generalize decide (0 ≤ flags ∧ flags ≤ 15) = q7
  clear e1 e2 e3 e4 e5 e6 e7 e8
  by_cases hk : kind = 1 ∨ kind = 2 ∨ kind = 17 ∨ kind = 3 ∨ kind = 18 ∨ kind = 19 ∨ kind = 4 ∨ kind = 20 ∨ kind = 5 ∨ kind = 21 ∨ kind = 22
  · rcases hk with rfl | rfl | rfl | rfl | rfl | rfl | rfl | rfl | rfl | rfl | rfl
    all_goals
      simp [formM, isHost, isDev]
      try (cases q1 <;> cases q2 <;> cases q3 <;> cases q7 <;> simp)
  · simp only [not_or] at hk
    obtain ⟨h1, h2, h3, h4, h5, h6, h7, h8, h9, h10, h11⟩ := hk
    have i1 : isHost kind = false := by
      unfold isHost
      by_cases h : 1 ≤ kind
      · have : ¬ kind ≤ 5 := by omega
        simp [this]
      · simp [h]
    have i2 : isDev kind = false := by
      unfold isDev
      by_cases h : 17 ≤ kind
      · have : ¬ kind ≤ 22 := by omega
        simp [this]
      · simp [h]
    simp [formM, h1, h2, h3, h4, h5, h6, h7, h8, h9, h10, h11, i1, i2]
theorem unitLawful_any (u : UnitM) (A : Option Addr) (c : Nat) (w : World) (hs : 0 ≤ u.session) (hn : 0 ≤ u.number) :
    Calls Tryz.prog 179 #[unitVal u (.slice A u.data.length c)] w fun e w' => e = .returned (.int .i64 u.lawful) ∧ Below w.heap.size w w' := by
  rw [← lawM_eq u hs hn]
  obtain ⟨kind, code, session, number, flags, data⟩ := u
  unfold unitVal
  simp only at *
  rcases hform : formM kind with ⟨⟨s, n, d, f⟩, is⟩
  go_enter Tryz.func179, Tryz.ntmps179
  go_wp2_with fail
  refine (formOf_any _ _).mono ?_
  rw [hform]
  unfold formVal
  rintro e w1 ⟨rfl, hb1⟩
  have hB := (Blk.new w 60 #[Value.int .i64 kind, .int .u32 code, .int .u32 session, .int .u32 number, .int .i64 flags, .slice A data.length c]).below hb1 (by simp)
  have hb1' : Below w.heap.size w w1 := ((Below.refl _ _).alloc (Nat.le_refl _) _).trans (hb1.mono (by simp))
  clear hb1
  have hc1 : ∀ o i, (w1.alloc o).cell? ⟨w.heap.size, i, none⟩ = (#[Value.int .i64 kind, .int .u32 code, .int .u32 session, .int .u32 number, .int .i64 flags, .slice A data.length c] : Array Value)[i]? := fun o i => (hB.alloc o).cell i
  have hn1 := hb1'.size
  cases is with
  | false =>
    go_wp2_with fail
    go_ret
    exact ⟨rfl, hb1'.alloc hn1 _⟩
  | true =>
  cases hcode : (code == 0) with
  | true =>
    go_wp2_with fail
    go_ret
    exact ⟨by simp [lawM, hcode], hb1'.alloc hn1 _⟩
  | false =>
  go_wp2_with fail
  refine (unitLength_any s n d f _ _).mono ?_
  rintro e w2 ⟨rfl, hb2⟩
  have hC := (Blk.new w1 279 #[Value.int .i64 s, .int .i64 n, .int .i64 d, .bool f]).below hb2 (by simp)
  have hc2 : ∀ i, w2.cell? ⟨w.heap.size, i, none⟩ = (#[Value.int .i64 kind, .int .u32 code, .int .u32 session, .int .u32 number, .int .i64 flags, .slice A data.length c] : Array Value)[i]? := ((hB.alloc _).below hb2 (hB.alloc _).lt).cell
  have hc3 : ∀ i, w2.cell? ⟨w1.heap.size, i, none⟩ = (#[Value.int .i64 s, .int .i64 n, .int .i64 d, .bool f] : Array Value)[i]? := hC.cell
  have hb2' : Below w.heap.size w w2 := (hb1'.alloc hn1 _).trans (hb2.mono (by simp; omega))
  clear hb2 hB hC hc1
  cases hlen : lenM d data.length with
  | false =>
    go_wp2_with fail
    go_ret
    exact ⟨by simp [lawM, hcode, hlen], hb2'⟩
  | true =>
  go_wp2_with fail
  refine (unitFits_any _ _ _).mono ?_
  rintro e w3 ⟨rfl, rfl⟩
  cases hfit : fitsM s session with
  | false =>
    go_wp2_with fail
    go_ret
    exact ⟨by simp [lawM, hcode, hlen, hfit], hb2'⟩
  | true =>
  go_wp2_with fail
  refine (unitFits_any _ _ _).mono ?_
  rintro e w4 ⟨rfl, rfl⟩
  cases hfin : fitsM n number with
  | false =>
    go_wp2_with fail
    go_ret
    exact ⟨by simp [lawM, hcode, hlen, hfit, hfin], hb2'⟩
  | true =>
  by_cases hx : flags < 0
  · go_wp2_with fail
    go_ret
    exact ⟨by simp [lawM, hcode, hlen, hfit, hfin, hx], hb2'⟩
  · by_cases hy : 15 < flags
    · go_wp2_with fail
      go_ret
      exact ⟨by simp [lawM, hcode, hlen, hfit, hfin, hy], hb2'⟩
    · cases f with
      | true =>
        go_wp2_with fail
        go_ret
        exact ⟨by simp [lawM, hcode, hlen, hfit, hfin, hx, hy], hb2'⟩
      | false =>
        cases hz : (flags != 0) with
        | true =>
          go_wp2_with fail
          go_ret
          exact ⟨by simp [lawM, hcode, hlen, hfit, hfin, hz], hb2'⟩
        | false =>
          go_wp2_with fail
          go_ret
          exact ⟨by simp [lawM, hcode, hlen, hfit, hfin, hx, hy, hz], hb2'⟩
end Go.Proofs.YtdiogamcjihejaaGreat
