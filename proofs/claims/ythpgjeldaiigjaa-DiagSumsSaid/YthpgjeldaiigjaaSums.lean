/- The walk of DiagSums. -/
import Derived.Test.YthpgjeldaiigjaaDiagL
import Derived.Test.YthpgjeldaiigjaaCodes
namespace Go.Proofs.Ythpgjeldaiigjaa
open Go.RowKit
set_option maxHeartbeats 1000000
set_option maxRecDepth 100000

/-- A slice of ints that came in, read as a list. -/
def IntsAt (w : World) (B : Nat) (A : Option Addr) (n : Nat) (zs : List Int) : Prop := Reads w B 1 A n (zs.map (Value.int .i64))
theorem IntsAt.len {w : World} {B : Nat} {A : Option Addr} {n : Nat} {zs : List Int} (h : IntsAt w B A n zs) : zs.length = n := by have := h.1; simpa using this
theorem IntsAt.get {w : World} {B : Nat} {A : Option Addr} {n : Nat} {zs : List Int} (h : IntsAt w B A n zs) {k : Nat} (hk : k < n) : ∃ ad, A = some ad ∧ ad.block < B ∧ w.cell? (ad.add k) = some (.int .i64 (zs.getD k 0)) := by
  obtain ⟨ad, u, h1, h2, h3, h4⟩ := h.at_ hk
  refine ⟨ad, h1, h2, ?_⟩
  rw [h4]
  rw [List.getElem?_map] at h3
  have : k < zs.length := by rw [h.len]; exact hk
  rw [List.getElem?_eq_getElem this] at h3
  simp only [Option.map_some, Option.some.injEq] at h3
  rw [← h3, List.getD_eq_getElem?_getD, List.getElem?_eq_getElem this]
  rfl
theorem IntsAt.below {w w' : World} {B : Nat} {A : Option Addr} {n : Nat} {zs : List Int} (h : IntsAt w B A n zs) (hb : Below B w w') : IntsAt w' B A n zs := Reads.below h hb

/-- The cells of the kept records' k-th one. -/
theorem kept_cells {w : World} {a : Nat} {L : List Rec} {F : Nat → Prop} {A : Option Addr} {m c base k : Nat} (hD : DiagIs w a L F) (hown : w.ownsRow base 34 4 (.slice A m c) m (recsCells (kept L))) (hm : (kept L).length = m)
    (hL : ∀ r ∈ L, r.code ≠ 0) (hk : k < m) : ∃ g, A = some ⟨g, 0, none⟩ ∧ w.cell? ⟨g, k * 4, none⟩ = some (.int .i64 (L.length - m + 1 + k)) ∧ ∃ cd, (cd == (0 : Int)) = false ∧ w.cell? ⟨g, k * 4 + 1, none⟩ = some (.int .i64 cd) := by
  rcases hown.2 with ⟨_, h0⟩ | ⟨g, cap, cur, hv, _⟩
  · omega
  · injection hv with h1 h2 h3
    subst h1
    have hc := hown.cells (g := g) rfl
    have hkl : L.length - 16 + k < L.length := by unfold kept at hm; rw [List.length_drop] at hm; omega
    have hx : (kept L)[k]? = some L[L.length - 16 + k] := by unfold kept; rw [List.getElem?_drop, List.getElem?_eq_getElem hkl]
    have hat := hD.1 (L.length - 16 + k) _ (List.getElem?_eq_getElem hkl)
    have hcells : ∀ j, j < 4 → (recsCells (kept L))[k * 4 + j]? = (L[L.length - 16 + k]).cells.toList[j]? := recsCells_get (kept L) k _ hx
    refine ⟨g, rfl, ?_, L[L.length - 16 + k].code, by simpa using hL _ (List.getElem_mem hkl), ?_⟩
    · have := hc (k * 4) _ ((hcells 0 (by omega)).trans rfl)
      rw [addr_add0] at this
      rw [this, hat]
      congr 2
      unfold kept at hm; rw [List.length_drop] at hm
      omega
    · have := hc (k * 4 + 1) _ ((hcells 1 (by omega)).trans rfl)
      rw [addr_add0] at this
      exact this
/-- The counts of the first k codes, summed up. -/
def sumTo (L : List Rec) (ks : List Int) (k : Nat) : Int := ((ks.take k).map fun c => (cnt c L : Int)).sum
theorem sumTo_succ (L : List Rec) (ks : List Int) (k : Nat) (hk : k < ks.length) : sumTo L ks (k + 1) = sumTo L ks k + (cnt ks[k] L : Int) := by
  unfold sumTo
  rw [List.take_succ_eq_append_getElem hk, List.map_append, List.sum_append]
  simp
theorem sumTo_nonneg (L : List Rec) (ks : List Int) (k : Nat) : 0 ≤ sumTo L ks k := by
  unfold sumTo
  induction ks.take k with
  | nil => simp
  | cons a l ih => simp only [List.map_cons, List.sum_cons]; omega
theorem sum_cnt (ks : List Int) (hn : ks.Nodup) : ∀ L : List Rec, (ks.map fun c => (cnt c L : Int)).sum = ((L.filter fun r => ks.contains r.code).length : Int)
  | [] => by
    have : (ks.map fun c => (cnt c [] : Int)) = ks.map fun _ => (0 : Int) := rfl
    rw [this]
    induction ks with
    | nil => rfl
    | cons a l ih => simp only [List.map_cons, List.sum_cons]; have := ih (List.nodup_cons.1 hn).2 rfl; simp at this ⊢; omega
  | r :: L => by
    have ih := sum_cnt ks hn L
    have e : ∀ c, (cnt c (r :: L) : Int) = (if r.code = c then 1 else 0) + cnt c L := by
      intro c
      unfold cnt
      rw [List.filter_cons]
      by_cases h : r.code = c <;> simp [h]; omega
    have e2 : (ks.map fun c => (cnt c (r :: L) : Int)).sum = (ks.map fun c => if r.code = c then (1 : Int) else 0).sum + (ks.map fun c => (cnt c L : Int)).sum := by
      clear ih
      induction ks with
      | nil => rfl
      | cons a l ih2 =>
        simp only [List.map_cons, List.sum_cons]
        rw [ih2 (List.nodup_cons.1 hn).2, e a]
        omega
    have e3 : (ks.map fun c => if r.code = c then (1 : Int) else 0).sum = if ks.contains r.code then 1 else 0 := by
      clear ih e2 e
      induction ks with
      | nil => rfl
      | cons a l ih2 =>
        rw [List.nodup_cons] at hn
        simp only [List.map_cons, List.sum_cons]
        rw [ih2 hn.2]
        by_cases h : r.code = a
        · subst h
          simp [hn.1]
        · simp [h]
    rw [e2, e3, ih, List.filter_cons]
    by_cases h : ks.contains r.code = true <;> simp only [h] <;> simp <;> omega
theorem sumTo_le (L : List Rec) (ks : List Int) (hn : ks.Pairwise (· ≠ ·)) (k : Nat) : sumTo L ks k ≤ L.length := by
  unfold sumTo
  rw [sum_cnt _ (List.Pairwise.sublist (List.take_sublist _ _) hn)]
  exact_mod_cast List.length_filter_le _ _
theorem sumTo_all (L : List Rec) (ks : List Int) (hn : ks.Pairwise (· ≠ ·)) (h : ∀ c, c ∈ ks ↔ 0 < cnt c L) : sumTo L ks ks.length = L.length := by
  unfold sumTo
  rw [List.take_length, sum_cnt _ hn, List.filter_eq_self.2]
  intro r hr
  simp only [List.contains_iff_mem]
  exact (h _).2 (cnt_pos.2 (List.mem_map.2 ⟨r, hr, rfl⟩))
theorem diagSums_any (A : Option Addr) (n c : Nat) (zs : List Int) (w : World) (hz : IntsAt w w.heap.size A n zs) (hn : n ≤ 17592186044416) :
    Calls Try.prog 3 #[.slice A n c] w fun e w' => e = .returned (.bool true) ∧ Below w.heap.size w w' := by
  go_enter Try.func3, Try.ntmps3
  go_wp2_with fail
  refine (awake12 _).mono ?_
  rintro e w1 ⟨rfl, hb1⟩
  go_wp2_with fail
  refine (diagNew_any _).mono ?_
  rintro e w2 ⟨a, rfl, hD, hb2⟩
  have hB2 : Below w.heap.size w w2 := hb1.trans (hb2.mono hb1.size)
  have hs1 := hb1.size
  go_wp2_with fail
  go_loopg [4] 2000 (fun q v4 wr => ∃ (i : Nat) (L : List Rec) (F : Nat → Prop), v4 = .int .i64 i ∧ i + q = 2000 ∧ i ≤ n ∧ L.length ≤ i ∧ DiagIs wr a L F ∧ (∀ b, F b → w.heap.size ≤ b) ∧ Hid (∀ r ∈ L, r.code ≠ 0) ∧ Below w.heap.size w wr)
  case atStart => exact ⟨0, [], _, rfl, by omega, by omega, by simp, hD, fun b h => by omega, Lib.hid (by simp), hB2⟩
  case round =>
    obtain ⟨i, L, F, rfl, hq, hin, hLi, hDr, hF, HL, hB⟩ := hrel
    clear hD hB2 hb1 hb2 hs1
    by_cases hlt : i < n ∧ i < 2000
    · obtain ⟨h1, h2⟩ := hlt
      obtain ⟨ad, rfl, hbl, hcell⟩ := (hz.below hB).get h1
      have Hq := Lib.hid hq
      clear hq
      by_cases h0 : zs.getD i 0 = 0
      · rw [h0] at hcell
        go_wp2_with fail
        refine (diagNote_ok a _ _ _).mono ?_
        rintro e w' ⟨rfl, rfl⟩
        go_wp2_with fail
        go_roundg (2000 - (i + 1))
        case measure => have := Hq.out; omega
        case rel => have := Hq.out; exact ⟨i + 1, L, F, by go_num, by omega, by omega, by omega, hDr, hF, HL, hB⟩
      · have hne : (zs.getD i 0 == 0) = false := by simpa using h0
        generalize zs.getD i 0 = z at hcell hne h0
        have H0 := Lib.hid h0
        clear h0
        go_wp2_with fail
        refine (diagNote_any a L F _ _ _ _ hne hDr (by omega)).mono ?_
        rintro e w3 ⟨rfl, hD3, hk3⟩
        have hB3 : Below w.heap.size w w3 := hB.trans (hk3.below hB.size hF)
        have hsz := hB.size
        clear hDr hcell hne
        go_wp2_with fail
        go_roundg (2000 - (i + 1))
        case measure => have := Hq.out; omega
        case rel =>
          have := Hq.out
          refine ⟨i + 1, _, _, by go_num, by omega, by omega, ?_, hD3, ?_, Lib.hid ?_, hB3⟩
          · simp; omega
          · rintro b (h | h)
            · exact hF b h
            · omega
          · intro r hr
            rcases List.mem_append.1 hr with h | h
            · exact HL.out r h
            · simp only [List.mem_singleton] at h
              subst h
              exact H0.out
    · have hl : L.length ≤ 2000 := by omega
      obtain ⟨Wr, rfl⟩ : ∃ W : World, W = wr := ⟨_, rfl⟩
      have hcase : (i < n ∧ 2000 ≤ i) ∨ n ≤ i := by omega
      have hmk : ((kept L).length = 16 ∧ 16 < L.length) ∨ ((kept L).length = L.length ∧ L.length ≤ 16) := by unfold kept; rw [List.length_drop]; omega
      clear hq hin hLi hlt
      rcases hcase with ⟨h1, h2⟩ | h1
      all_goals
        go_wp2_with fail
        refine (diagRecords_any a _ _ _ hDr).mono ?_
        rintro e w3 ⟨v5, rfl, hown5, hb5⟩
        have hD3 := hDr.below hb5
        obtain ⟨A5, c5, rfl⟩ := own_slice hown5
        have hB3 : Below w.heap.size w w3 := hB.trans (hb5.mono hB.size)
        have hsz3 := hB.size
        clear hDr hB hb5
        generalize hm : (kept L).length = m at hown5 hmk ⊢
        have Hm := Lib.hid hm
        clear hm
        go_wp2_with fail
        refine (diagTotal_any a _ _ _ hD3 (by omega)).mono ?_
        rintro e w' ⟨rfl, rfl⟩
        rcases hmk with ⟨hm1, hm2⟩ | ⟨hm1, hm2⟩
      all_goals
        go_wp2_with fail
        go_loopg [7] m (fun q v7 wr => ∃ (k : Nat), v7 = .int .i64 k ∧ k + q = m ∧ DiagIs wr a L F ∧ wr.ownsRow w.heap.size 34 4 (.slice A5 m c5) m (recsCells (kept L)) ∧ Below w.heap.size w wr)
        case atStart => exact ⟨0, rfl, by omega, hD3, own_base hown5 hsz3, hB3⟩
        case round =>
          obtain ⟨k, rfl, hkq, hD4, hown4, hB4⟩ := hrel
          clear hD3 hown5 hB3
          by_cases hk : k < m
          · obtain ⟨g, rfl, hc0, cd, hcd, hc1⟩ := kept_cells hD4 hown4 Hm.out HL.out hk
            have Hkq := Lib.hid hkq
            clear hkq
            go_wp2_with fail
            go_quiet ((go_at_call 11; exact Calls.quiet_of_same (diagTotal_any a L F _ (hD4.drewN _) (by omega))))
            go_wp2_with fail
            go_roundg (m - (k + 1))
            case measure => have := Hkq.out; omega
            case rel => have := Hkq.out; exact ⟨k + 1, by go_num, by omega, hD4.drewN _, hown4, belowN hB4 _⟩
          · obtain ⟨W4, rfl⟩ : ∃ W : World, W = wr := ⟨_, rfl⟩
            clear hkq hown4
            go_wp2_with fail
            refine (diagCodes_any a _ _ _ hD4 (by omega)).mono ?_
            rintro e w5 ⟨v9, ks, rfl, hks, hown9, hb9⟩
            have hD5 := hD4.below hb9
            obtain ⟨A9, c9, rfl⟩ := own_slice hown9
            have hB5 : Below w.heap.size w w5 := hB4.trans (hb9.mono hB4.size)
            have hsz5 := hB4.size
            clear hD4 hB4 hb9
            have hkl : ks.length ≤ L.length := by
              have := nodup_le ks (L.map Rec.code) (hks.1.imp (fun h => by omega)) (fun c hc => cnt_pos.1 ((hks.2 c).1 hc))
              simpa using this
            have Hks := Lib.hid hks
            clear hks
            go_wp2_with fail
            go_loopg [8, 10] ks.length (fun q v8 v10 wr => ∃ (k : Nat), v10 = .int .i64 k ∧ k + q = ks.length ∧ v8 = .int .i64 (sumTo L ks k) ∧ DiagIs wr a L F ∧ wr.ownsRow w.heap.size 26 1 (.slice A9 ks.length c9) ks.length (ks.map (Value.int .i64)) ∧ Below w.heap.size w wr)
            case atStart => exact ⟨0, rfl, by omega, by simp [sumTo], hD5, own_base hown9 hsz5, hB5⟩
            case round =>
              obtain ⟨j, rfl, hjq, rfl, hD6, hown6, hB6⟩ := hrel
              clear hD5 hown9 hB5
              by_cases hj : j < ks.length
              · obtain ⟨g, rfl, hcell⟩ := own_cell1 hown6 (by omega)
                have hcj := hcell j hj
                have hcn : 0 < cnt ks[j] L := (Hks.out.2 _).1 (List.getElem_mem hj)
                have hcl : cnt ks[j] L ≤ L.length := List.length_filter_le _ _
                have Hsum := Lib.hid (sumTo_succ L ks j hj)
                have hsle := sumTo_le L ks (Hks.out.1.imp (fun h => by omega)) j
                have Hjq := Lib.hid hjq
                have hsge : 0 ≤ sumTo L ks j := sumTo_nonneg L ks j
                have hd1 : decide ((cnt ks[j] L : Int) < 1) = false := by simp; omega
                rcases Nat.eq_zero_or_pos j with h0 | h0
                · clear hcell
                  have hd2 : decide (0 < (j : Int)) = false := by simp; omega
                  have hd2' : decide (0 < j) = false := by simp; omega
                  have H0 := Lib.hid h0
                  clear h0
                  generalize ks[j] = cj at hcj hcn hcl Hsum hd1
                  have Hs := Lib.hid (rfl : sumTo L ks j = sumTo L ks j)
                  go_wp2_with fail
                  refine (diagCount_any a _ _ _ _ hD6 (by omega)).mono ?_
                  rintro e w' ⟨rfl, rfl⟩
                  go_wp2_with fail
                  go_quiet (fail)
                  go_wp2_with fail
                  go_roundg (ks.length - (j + 1))
                  case measure => have := Hjq.out; omega
                  case rel => have := Hjq.out; exact ⟨j + 1, by go_num, by omega, by rw [Hsum.out], hD6.drewN _, hown6, belowN hB6 _⟩
                · obtain ⟨i', rfl⟩ : ∃ i', j = i' + 1 := ⟨j - 1, by omega⟩
                  have hci := hcell i' (by omega)
                  have hlt' : ks[i'] < ks[i' + 1] := List.pairwise_iff_getElem.1 Hks.out.1 i' (i' + 1) (by omega) hj (by omega)
                  clear hcell
                  have hd2 : decide (0 < (i' : Int) + 1) = true := decide_eq_true (by omega)
                  have hw1 : IntKind.i64.wrap ((i' : Int) + 1 - 1) = i' := by rw [show (i' : Int) + 1 - 1 = i' by omega]; exact IntWalk.i64_in _ (by omega)
                  have hw2 : IntKind.i64.wrap (i' : Int) = i' := IntWalk.i64_in _ (by omega)
                  have hd3 : decide (ks[i' + 1] ≤ ks[i']) = false := by simp; omega
                  generalize ks[i' + 1] = cj at hcj hcn hcl Hsum hd1 hlt' hd3
                  generalize ks[i'] = ci at hci hlt' hd3
                  go_wp2_with fail
                  refine (diagCount_any a _ _ _ _ hD6 (by omega)).mono ?_
                  rintro e w' ⟨rfl, rfl⟩
                  go_wp2_with fail
                  go_quiet (fail)
                  go_wp2_with fail
                  go_roundg (ks.length - (i' + 1 + 1))
                  case measure => have := Hjq.out; omega
                  case rel => have := Hjq.out; exact ⟨i' + 1 + 1, by go_num, by omega, by rw [Hsum.out], hD6.drewN _, hown6, belowN hB6 _⟩
              · have hje : j = ks.length := by omega
                have hall := sumTo_all L ks (Hks.out.1.imp (fun h => by omega)) Hks.out.2
                rw [← hje] at hall
                rw [hall]
                clear hjq hall hown6
                have Hje := Lib.hid hje
                have hj' : ks.length ≤ j := by omega
                clear hje
                go_wp2_with fail
                refine (diagTotal_any a _ _ _ hD6 (by omega)).mono ?_
                rintro e w' ⟨rfl, rfl⟩
                go_wp2_with fail
                go_ret
                exact ⟨rfl, hB6⟩
end Go.Proofs.Ythpgjeldaiigjaa
