/- slices.Sort of at most twelve uint32: an insertion sort. -/
import Derived.Test.YtlldgfejcjnpkaaGreatBase11
import Derived.Test.YtlldgfejcjnpkaaGreatShelf
import Derived.Deep.RegionHeld
set_option linter.unusedVariables false
namespace Go.Proofs.YtlldgfejcjnpkaaGreat
open Go.RowKit
set_option maxHeartbeats 10000000
set_option maxRecDepth 100000

def u32c (l : List Int) : List Value := l.map (Value.int .u32)
theorem u32c_length (l : List Int) : (u32c l).length = l.length := by simp [u32c]
/-- Two neighbours change places. -/
def swapAt (xs : List Int) (j : Nat) : List Int := (xs.set j (xs.getD (j - 1) 0)).set (j - 1) (xs.getD j 0)
theorem swapAt_length (xs : List Int) (j : Nat) : (swapAt xs j).length = xs.length := by simp [swapAt]
theorem swapAt_getD (xs : List Int) (j k : Nat) (hj : 0 < j) (hl : j < xs.length) : (swapAt xs j).getD k 0 = if k = j - 1 then xs.getD j 0 else if k = j then xs.getD (j - 1) 0 else xs.getD k 0 := by
  unfold swapAt
  simp only [List.getD_eq_getElem?_getD, List.getElem?_set, List.length_set]
  by_cases h1 : k = j - 1
  · subst h1
    rw [if_pos rfl, if_pos rfl, if_pos (by omega)]
    rfl
  · rw [if_neg (fun e => h1 e.symm), if_neg h1]
    by_cases h2 : k = j
    · subst h2
      rw [if_pos rfl, if_pos rfl, if_pos (by omega)]
      rfl
    · rw [if_neg (fun e => h2 e.symm), if_neg h2]
theorem swapAt_perm (xs : List Int) (j : Nat) (hj : 0 < j) (hl : j < xs.length) : (swapAt xs j).Perm xs := by
  have h := Array.swap_perm (xs := xs.toArray) (i := j) (j := j - 1) (by simpa using hl) (by simp; omega)
  have e : (xs.toArray.swap j (j - 1) (by simpa using hl) (by simp; omega)).toList = swapAt xs j := by
    have h2 : j - 1 < xs.length := by omega
    simp [Array.swap, swapAt, hl, h2]
  have h3 := Array.perm_iff_toList_perm.1 h
  rw [e] at h3
  exact h3
/-- Sorted up to i, but for what stands in place j. -/
def SortedBut (ys : List Int) (i j : Nat) : Prop := ∀ p q, p < q → q ≤ i → q ≠ j → ys.getD p 0 ≤ ys.getD q 0
theorem SortedBut.swap {ys : List Int} {i j : Nat} (h : SortedBut ys i j) (hj : 0 < j) (hji : j ≤ i) (hi : i < ys.length) (hlt : ys.getD j 0 < ys.getD (j - 1) 0) : SortedBut (swapAt ys j) i (j - 1) := by
  intro p q hpq hqi hqj
  rw [swapAt_getD ys j p hj (by omega), swapAt_getD ys j q hj (by omega), if_neg hqj]
  by_cases h2 : q = j
  · subst h2
    rw [if_pos rfl]
    by_cases h3 : p = q - 1
    · rw [if_pos h3]; omega
    · rw [if_neg h3, if_neg (by omega)]
      exact h p (q - 1) (by omega) (by omega) (by omega)
  · rw [if_neg h2]
    by_cases h3 : p = j - 1
    · rw [if_pos h3]
      exact h j q (by omega) hqi h2
    · rw [if_neg h3]
      by_cases h4 : p = j
      · rw [if_pos h4]
        exact h (j - 1) q (by omega) hqi h2
      · rw [if_neg h4]
        exact h p q hpq hqi h2
theorem SortedBut.stop {ys : List Int} {i j : Nat} (h : SortedBut ys i j) (hs : j = 0 ∨ ys.getD (j - 1) 0 ≤ ys.getD j 0) : ∀ p q, p < q → q ≤ i → ys.getD p 0 ≤ ys.getD q 0 := by
  intro p q hpq hqi
  by_cases h2 : q = j
  · subst h2
    rcases hs with h0 | h0
    · omega
    · by_cases h3 : p = q - 1
      · subst h3; exact h0
      · have := h p (q - 1) (by omega) (by omega) (by omega)
        omega
  · exact h p q hpq hqi h2
/-- What Sort leaves. -/
def sortI (l : List Int) : List Int := l.mergeSort fun x y => decide (x ≤ y)
theorem sortI_length (l : List Int) : (sortI l).length = l.length := List.length_mergeSort _
theorem sortI_sorted (l : List Int) : (sortI l).Pairwise (· ≤ ·) :=
  (List.pairwise_mergeSort (le := fun x y : Int => decide (x ≤ y)) (fun a b c h1 h2 => by simp at *; omega) (fun a b => by simp; omega) l).imp (fun h => by simpa using h)
theorem perm_sorted : ∀ (a b : List Int), a.Perm b → a.Pairwise (· ≤ ·) → b.Pairwise (· ≤ ·) → a = b
  | [], b, hp, _, _ => by simpa using hp
  | x :: a, [], hp, _, _ => by simp at hp
  | x :: a, y :: b, hp, h1, h2 => by
    rw [List.pairwise_cons] at h1 h2
    have hxy : x = y := by
      have a1 : x ∈ y :: b := hp.subset List.mem_cons_self
      have a2 : y ∈ x :: a := hp.symm.subset List.mem_cons_self
      rcases List.mem_cons.1 a1 with e | e
      · exact e
      rcases List.mem_cons.1 a2 with e2 | e2
      · exact e2.symm
      have := h1.1 y e2
      have := h2.1 x e
      omega
    subst hxy
    rw [perm_sorted a b ((List.perm_cons x).1 hp) h1.2 h2.2]
theorem sortI_of {l ys : List Int} (hp : ys.Perm l) (hs : ys.Pairwise (· ≤ ·)) : ys = sortI l :=
  perm_sorted ys (sortI l) (hp.trans (List.mergeSort_perm l _).symm) hs (sortI_sorted l)
theorem pairwise_getD {ys : List Int} (h : ∀ p q, p < q → q < ys.length → ys.getD p 0 ≤ ys.getD q 0) : ys.Pairwise (· ≤ ·) := by
  rw [List.pairwise_iff_getElem]
  intro p q hp hq hpq
  have := h p q hpq hq
  simpa [List.getD_eq_getElem?_getD, hp, hq] using this
theorem sortI_perm (l : List Int) : (sortI l).Perm l := List.mergeSort_perm l _

theorem isNaN32_any (x : Int) (w : World) : Calls Tryz.prog 201 #[.int .u32 x] w fun e w' => e = .returned (.bool false) ∧ w' = w := by
  go_enter Tryz.func201, Tryz.ntmps201
  go_wp2_with fail
  go_ret
  exact ⟨rfl, rfl⟩
theorem cmpLess32_any (x y : Int) (w : World) : Calls Tryz.prog 168 #[.int .u32 x, .int .u32 y] w fun e w' => e = .returned (.bool (decide (x < y))) ∧ w' = w := by
  go_enter Tryz.func168, Tryz.ntmps168
  go_wp2_with fail
  refine (isNaN32_any x _).mono ?_
  rintro e w' ⟨rfl, rfl⟩
  go_wp2_with fail
  go_ret
  exact ⟨rfl, rfl⟩
theorem own_getD {w : World} {base g n c : Nat} {ys : List Int} (h : w.ownsRow base 34 1 (.slice (some ⟨g, 0, none⟩) n c) n (u32c ys)) (k : Nat) (hk : k < n) : w.cell? ⟨g, k, none⟩ = some (.int .u32 (ys.getD k 0)) ∧ w.frozen? ⟨g, k, none⟩ = false := by
  have hl : ys.length = n := by have := h.1; simpa [u32c] using this
  have h1 := h.cellAt k (by omega)
  refine ⟨?_, (own_at (k := k) h).1⟩
  rw [h1]
  have hkl : k < ys.length := by omega
  simp [u32c, List.getD_eq_getElem?_getD, hkl]
theorem own_swap {w : World} {base g n c : Nat} {ys : List Int} (h : w.ownsRow base 34 1 (.slice (some ⟨g, 0, none⟩) n c) n (u32c ys)) (j : Nat) :
    ((w.setCell ⟨g, j, none⟩ (.int .u32 (ys.getD (j - 1) 0))).setCell ⟨g, j - 1, none⟩ (.int .u32 (ys.getD j 0))).ownsRow base 34 1 (.slice (some ⟨g, 0, none⟩) n c) n (u32c (swapAt ys j)) := by
  have h2 := own_set1 (own_set1 h j (.int .u32 (ys.getD (j - 1) 0))) (j - 1) (.int .u32 (ys.getD j 0))
  have e : ((u32c ys).set j (.int .u32 (ys.getD (j - 1) 0))).set (j - 1) (.int .u32 (ys.getD j 0)) = u32c (swapAt ys j) := by simp [u32c, swapAt, List.map_set]
  rw [e] at h2
  exact h2
theorem insSort_any (g c base n : Nat) (xs : List Int) (w : World) (hl : xs.length = n) (hn : n ≤ 12) (hr : w.ownsRow base 34 1 (.slice (some ⟨g, 0, none⟩) n c) n (u32c xs)) :
    Calls Tryz.prog 162 #[.slice (some ⟨g, 0, none⟩) n c, .int .i64 0, .int .i64 n] w fun e w' => e = .returned (.tuple #[]) ∧ w'.ownsRow base 34 1 (.slice (some ⟨g, 0, none⟩) n c) n (u32c (sortI xs)) ∧ Keep (fun k => k = g) w w' ∧ w'.heap.size = w.heap.size := by
  have Hl := Lib.hid hl
  clear hl
  go_enter Tryz.func162, Tryz.ntmps162
  go_wp2_with fail
  go_loopg [6, 7] n (fun q v6 _v7 wr => ∃ (i : Nat) (ys : List Int), v6 = .int .i64 i ∧ i + q = n + 1 ∧ 1 ≤ i ∧ Hid (ys.Perm xs ∧ ∀ p q, p < q → q < i → q < n → ys.getD p 0 ≤ ys.getD q 0) ∧ wr.ownsRow base 34 1 (.slice (some ⟨g, 0, none⟩) n c) n (u32c ys) ∧ Keep (fun k => k = g) w wr ∧ wr.heap.size = w.heap.size)
  case atStart => exact ⟨1, xs, rfl, by omega, by omega, Lib.hid ⟨List.Perm.refl _, fun p q h1 h2 => by omega⟩, hr, Keep.refl _ _, rfl⟩
  case round =>
    obtain ⟨i, ys, rfl, hq, hi1, HP, hown, hk, hsz⟩ := hrel
    have Hsz := Lib.hid hsz
    clear hsz
    by_cases hlt : i < n
    · have Hq := Lib.hid hq
      clear hq hr
      go_wp2_with fail
      go_loopg [7] i (fun q v7 wl => ∃ (zs : List Int), v7 = .int .i64 q ∧ q ≤ i ∧ Hid (zs.Perm xs ∧ SortedBut zs i q) ∧ wl.ownsRow base 34 1 (.slice (some ⟨g, 0, none⟩) n c) n (u32c zs) ∧ Keep (fun k => k = g) w wl ∧ Hid (wl.heap.size = w.heap.size))
      case atStart => exact ⟨ys, rfl, Nat.le_refl _, Lib.hid ⟨HP.out.1, fun p q h1 h2 h3 => HP.out.2 p q h1 (by omega) (by omega)⟩, hown, hk, Hsz⟩
      case round =>
        clear hown hk Hsz
        obtain ⟨zs, rfl, hqi, HZ, hown, hk, Hsz⟩ := hrel
        obtain ⟨W0, rfl⟩ : ∃ W : World, W = wr := ⟨_, rfl⟩
        rcases Nat.eq_zero_or_pos gk with h0 | h0
        · have HI := Lib.hid (show SortedBut zs i 0 by rw [← h0]; exact HZ.out.2)
          have HP2 := Lib.hid HZ.out.1
          clear HZ HP
          subst h0
          go_wp2_with fail
          go_quiet (fail)
          go_wp2_with fail
          go_roundg (n - i)
          case measure => have := Hq.out; omega
          case rel =>
            have := Hq.out
            exact ⟨i + 1, zs, by go_num, by omega, by omega, Lib.hid ⟨HP2.out, fun p q h1 h2 _ => HI.out.stop (.inl rfl) p q h1 (by omega)⟩, own_below hown (belowN (Below.refl W0.heap.size W0) _), hk.drewN _, Hsz.out⟩
        · obtain ⟨j, hj⟩ : ∃ j, gk = j + 1 := ⟨gk - 1, by omega⟩
          obtain ⟨p1, f1⟩ := own_getD hown gk (by omega)
          obtain ⟨p0, f0⟩ := own_getD hown j (by omega)
          have hlt1 : ((gk : Nat) : Int) < (n : Int) := by omega
          have hlt0 : ((j : Nat) : Int) < (n : Int) := by omega
          have hsub : (gk : Int) - 1 = (j : Int) := by omega
          have hgt : (0 : Int) < (gk : Int) := by omega
          have Hj := Lib.hid hj
          have hsw := own_swap hown gk
          rw [show gk - 1 = j by omega] at hsw
          generalize hx : zs.getD gk 0 = x at *
          generalize hy : zs.getD j 0 = y at *
          have Hx := Lib.hid hx
          have Hy := Lib.hid hy
          clear hj hx hy
          go_wp2_with fail
          go_quiet ((go_at_call 168; exact Calls.quiet_of_same (cmpLess32_any _ _ _)))
          have hbD := fun k => belowN (Below.refl W0.heap.size W0) k
          by_cases hxy : x < y
          · have HN : Hid ((swapAt zs gk).Perm xs ∧ SortedBut (swapAt zs gk) i j) := by
              have h1 := HZ.out
              have h2 := Hj.out
              have hzl : zs.length = n := (h1.1.length_eq).trans Hl.out
              refine Lib.hid ⟨(swapAt_perm zs gk h0 (by omega)).trans h1.1, ?_⟩
              have h3 := h1.2.swap h0 hqi (by omega) (by rw [Hx.out, show gk - 1 = j by omega, Hy.out]; exact hxy)
              rw [show gk - 1 = j by omega] at h3
              exact h3
            have Hsw := Lib.hid hsw
            clear hsw HZ
            go_wp2_with fail
            go_region
            go_wp2_with fail
            go_roundg j
            case measure => have := Hj.out; omega
            case rel =>
              have := Hj.out
              exact ⟨swapAt zs gk, rfl, by omega, HN, Hsw.out, ((hk.drewN _).setCell (fun _ => rfl) _).setCell (fun _ => rfl) _, Lib.hid (by simpa using Hsz.out)⟩
          · have HI := Lib.hid (show ∀ p q, p < q → q ≤ i → zs.getD p 0 ≤ zs.getD q 0 from HZ.out.2.stop (.inr (by have := Hj.out; rw [Hx.out, show gk - 1 = j by omega, Hy.out]; omega)))
            have HP2 := Lib.hid HZ.out.1
            clear hsw HZ HP
            go_wp2_with fail
            go_roundg (n - i)
            case measure => have := Hq.out; omega
            case rel =>
              have := Hq.out
              exact ⟨i + 1, zs, by go_num, by omega, by omega, Lib.hid ⟨HP2.out, fun p q h1 h2 _ => HI.out p q h1 (by omega)⟩, own_below hown (hbD _), hk.drewN _, Hsz.out⟩
    · have hys : ys = sortI xs := by
        have h1 := HP.out
        have h2 : ys.length = n := h1.1.length_eq.trans Hl.out
        exact sortI_of h1.1 (pairwise_getD fun p q h3 h4 => h1.2 p q h3 (by omega) (by omega))
      subst hys
      clear hr HP
      go_wp2_with fail
      go_end0
      exact ⟨rfl, hown, hk, Hsz.out⟩
theorem sort32_any (v : Value) (base : Nat) (xs : List Int) (w : World) (hn : xs.length ≤ 12) (hr : w.ownsRow base 34 1 v xs.length (u32c xs)) :
    Calls Tryz.prog 75 #[v] w fun e w' => e = .returned (.tuple #[]) ∧ w'.ownsRow base 34 1 v xs.length (u32c (sortI xs)) ∧ Keep (fun k => v.ownBlock = some k) w w' ∧ w'.heap.size = w.heap.size := by
  obtain ⟨A, c, rfl⟩ := own_slice hr
  obtain ⟨n, Hn⟩ : ∃ n, Hid (xs.length = n) := ⟨_, Lib.hid rfl⟩
  rw [Hn.out] at hr hn ⊢
  have hlen := Tryz.bits_Len (n : Int) w (by omega) (by omega)
  have hpd : Calls Tryz.prog 126 #[.slice A n c, .int .i64 0, .int .i64 n, .int .i64 (Lib.bitLen n)] w fun e w' => e = .returned (.tuple #[]) ∧ w'.ownsRow base 34 1 (.slice A n c) n (u32c (sortI xs)) ∧ Keep (fun k => (Value.slice A n c).ownBlock = some k) w w' ∧ w'.heap.size = w.heap.size := by
    cases A with
    | none =>
      have hn0 : n = 0 ∧ c = 0 := by
        rcases hr.2 with ⟨h, h0⟩ | ⟨g, cap, cur, h, _⟩
        · injection h with _ _ h3
          exact ⟨h0, h3⟩
        · cases h
      obtain ⟨rfl, rfl⟩ := hn0
      have hx : sortI xs = xs := by rw [List.eq_nil_of_length_eq_zero Hn.out]; simp [sortI]
      rw [hx]
      have hins : Calls Tryz.prog 162 #[.slice none 0 0, .int .i64 0, .int .i64 0] w fun e w' => e = .returned (.tuple #[]) ∧ w' = w := by
        go_enter Tryz.func162, Tryz.ntmps162
        go_wp2_with fail
        refine wp_loop_rounds 1 ?_
        rw [rounds_succ]
        go_wp2_with fail
        go_end0
        exact ⟨rfl, rfl⟩
      go_enter Tryz.func126, Tryz.ntmps126
      go_wp2_with fail
      refine wp_loop_rounds 1 ?_
      rw [rounds_succ]
      go_wp2_with fail
      refine hins.mono ?_
      rintro e w' ⟨rfl, rfl⟩
      go_wp2_with fail
      exact bodyPost_ret (v := .tuple #[]) (by simp [results, Tryz.results126, go_sem]) rfl ⟨rfl, hr, Keep.refl _ _, rfl⟩
    | some ad =>
      obtain ⟨g, rfl⟩ : ∃ g, ad = ⟨g, 0, none⟩ := by
        rcases hr.2 with ⟨h, h0⟩ | ⟨g, cap, cur, h, _⟩
        · cases h
        · injection h with h1 _ _
          injection h1 with h1
          exact ⟨g, h1⟩
      have hins := insSort_any g c base n xs w Hn.out hn hr
      have hle : (n : Int) ≤ 12 := by omega
      go_enter Tryz.func126, Tryz.ntmps126
      go_wp2_with fail
      refine wp_loop_rounds 1 ?_
      rw [rounds_succ]
      go_wp2_with fail
      refine hins.mono ?_
      rintro e w' ⟨rfl, h1, h2, h3⟩
      go_wp2_with fail
      exact bodyPost_ret (v := .tuple #[]) (by simp [results, Tryz.results126, go_sem]) rfl ⟨rfl, h1, h2.mono (fun x _ hx => by rw [hx]; rfl), h3⟩
  rw [show ((n : Int)).toNat = n by omega] at hlen
  generalize Lib.bitLen n = bl at *
  have hcv : IntKind.u64.wrap (n : Int) = n := by rw [IntKind.wrap_u64]; omega
  go_enter Tryz.func75, Tryz.ntmps75
  go_wp2_with fail
  refine hlen.mono ?_
  rintro e w' ⟨rfl, rfl⟩
  go_wp2_with fail
  refine hpd.mono ?_
  rintro e w' ⟨rfl, h1, h2, h3⟩
  go_wp2_with fail
  go_end0
  exact ⟨rfl, h1, h2, h3⟩
end Go.Proofs.YtlldgfejcjnpkaaGreat
