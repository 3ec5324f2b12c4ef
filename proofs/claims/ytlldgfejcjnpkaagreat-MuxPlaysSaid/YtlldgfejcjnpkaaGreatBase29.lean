/- The base of the laws, part 29: contracts and plain lemmas, no statement. -/
import Derived.Test.YtlldgfejcjnpkaaGreatBase6
import Derived.Test.YtlldgfejcjnpkaaGreatBase8
import Derived.Laws.CopyOwn
import Derived.Deep.RegionHeld3
set_option linter.unusedVariables false
/- Lists with spare room (parapethand): Spare, Kept, mark. -/
namespace Go.Proofs.YtlldgfejcjnpkaaGreat
open Go.RowKit
set_option maxHeartbeats 10000000
set_option maxRecDepth 100000

theorem own_prefix {w : World} {base : Nat} {e : TypeId} {g n m c : Nat} {xs : List Value} (h : w.ownsRow base e 1 (.slice (some ⟨g, 0, none⟩) m c) m xs) (hn : n ≤ m) : w.ownsRow base e 1 (.slice (some ⟨g, 0, none⟩) n c) n (xs.take n) := by
  obtain ⟨hl, h⟩ := h
  refine ⟨by rw [List.length_take, hl]; omega, ?_⟩
  rcases h with ⟨h, _⟩ | ⟨g', cap, cur, h, hb, hg, hnc, hm, hs, hx⟩
  · cases h
  · injection h with h1 h2 h3
    injection h1 with h1
    injection h1 with h1
    subst h1 h3
    refine .inr ⟨g, c, cur, rfl, hb, hg, by omega, hm, hs, ?_⟩
    rw [← hx, List.take_take]
    congr 1
    omega
end Go.Proofs.YtlldgfejcjnpkaaGreat
/- Lists that must not share memory (parapethand.Apart). -/
namespace Go.Proofs.YtlldgfejcjnpkaaGreat
open Go.RowKit
set_option maxHeartbeats 10000000
set_option maxRecDepth 100000

section
variable {P : Program} (w : World)
end
/-- The byte that a list has in a place. -/
def markV (i k : Nat) : Value := .int .u8 ((17 * (i : Int) + 5 * (k : Int) + 3) % 256)
def marks (i n : Nat) : List Value := (List.range n).map (markV i)
theorem marks_succ (i n : Nat) : marks i (n + 1) = marks i n ++ [markV i n] := by simp [marks, List.range_succ]
theorem marks_take {i n m : Nat} (h : n ≤ m) : (marks i m).take n = marks i n := by
  unfold marks
  rw [← List.map_take, List.take_range, Nat.min_eq_left h]
/-- Lists in memory: the list of them at L, each a row of its own. -/
structure Lists (B : Nat) (w : World) (L N : Nat) (V : Nat → Value) (n : Nat → Nat) (X : Nat → List Value) : Prop where
  cell : ∀ i, i < N → w.cell? ⟨L, i, none⟩ = some (V i)
  row : ∀ i, i < N → w.ownsRow B 5 1 (V i) (n i) (X i)
  far : ∀ i, i < N → ∀ x, (V i).ownBlock = some x → x ≠ L
  dis : ∀ i j, i < N → j < N → i ≠ j → ∀ x, (V i).ownBlock = some x → (V j).ownBlock ≠ some x
section
variable {B L N : Nat} {w w' : World} {V : Nat → Value} {n : Nat → Nat} {X Y : Nat → List Value}
theorem Lists.same (h : Lists B w L N V n X) (e : ∀ i, i < N → X i = Y i) : Lists B w L N V n Y := ⟨h.cell, fun i hi => by rw [← e i hi]; exact h.row i hi, h.far, h.dis⟩
theorem Lists.drew (h : Lists B w L N V n X) : Lists B w.drew L N V n X := ⟨h.cell, fun i hi => own_below (h.row i hi) (Below.refl w.heap.size w).drew, h.far, h.dis⟩
theorem Lists.drewN (h : Lists B w L N V n X) (k : Nat) : Lists B (w.drewN k) L N V n X := ⟨h.cell, fun i hi => own_below (h.row i hi) (belowN (Below.refl w.heap.size w) k), h.far, h.dis⟩
theorem Lists.below (h : Lists B w L N V n X) (hL : L < w.heap.size) (hb : Below w.heap.size w w') : Lists B w' L N V n X := ⟨fun i hi => (hb.cell hL).trans (h.cell i hi), fun i hi => own_below (h.row i hi) hb, h.far, h.dis⟩
/-- Behind a store into list i. -/
theorem Lists.store (h : Lists B w L N V n X) {i k g c : Nat} (hi : i < N) (hv : V i = .slice (some ⟨g, 0, none⟩) (n i) c) (u : Value) : Lists B (w.setCell ⟨g, k, none⟩ u) L N V n (fun j => if j = i then (X i).set k u else X j) where
  cell := fun j hj => (World.cell?_setCell_other w ⟨g, k, none⟩ ⟨L, j, none⟩ u (by intro e; injection e with e1; exact h.far i hi g (by rw [hv]; rfl) e1)).trans (h.cell j hj)
  row := fun j hj => by
    by_cases e : j = i
    · subst e
      rw [if_pos rfl]
      have hr := h.row j hj
      rw [hv] at hr ⊢
      exact own_set1 hr k u
    · rw [if_neg e]
      exact own_far (h.row j hj) (fun hx => h.dis j i hj hi e g hx (by rw [hv]; rfl)) k u
  far := h.far
  dis := h.dis
/-- The lists, and what grew out of each (its list at GR): no two of different lists share a block; all that changed since w0 is the lists' own. -/
structure Grown (B : Nat) (w0 w : World) (L GR N : Nat) (V G : Nat → Value) (n m : Nat → Nat) : Prop where
  ls : Lists B w L N V n (fun i => marks i (n i))
  row : ∀ i, i < N → w.ownsRow B 5 1 (G i) (m i) (marks i (m i))
  nm : ∀ i, i < N → n i ≤ m i
  lg : L < w.heap.size ∧ GR < w.heap.size ∧ L ≠ GR
  vfar : ∀ i, i < N → ∀ x, (V i).ownBlock = some x → x ≠ GR
  gfar : ∀ i, i < N → ∀ x, (G i).ownBlock = some x → x ≠ GR ∧ x ≠ L
  dis : ∀ i j, i < N → j < N → i ≠ j → ∀ x, (G i).ownBlock = some x → (G j).ownBlock ≠ some x ∧ (V j).ownBlock ≠ some x
  gs : ∀ i, i < N → ∀ x, (G i).ownBlock = some x → (∃ j, j < N ∧ (V j).ownBlock = some x) ∨ w0.heap.size ≤ x
  keep : Keep (fun x => ∃ i, i < N ∧ (V i).ownBlock = some x) w0 w
section
variable {w0 : World} {GR : Nat} {G : Nat → Value} {m : Nat → Nat}
theorem Grown.below (h : Grown B w0 w L GR N V G n m) (hb : Below w.heap.size w w') : Grown B w0 w' L GR N V G n m :=
  { h with ls := h.ls.below h.lg.1 hb, row := fun i hi => own_below (h.row i hi) hb, lg := ⟨Nat.lt_of_lt_of_le h.lg.1 hb.size, Nat.lt_of_lt_of_le h.lg.2.1 hb.size, h.lg.2.2⟩, keep := h.keep.trans (Keep.of_below hb) }
/-- Behind an append onto what grew out of list j. -/
theorem Grown.append (h : Grown B w0 w L GR N V G n m) {j : Nat} (hj : j < N) {v' : Value} (hown : w'.ownsRow B 5 1 v' (m j + 1) (marks j (m j) ++ [markV j (m j)]))
    (hc : (∃ g cap, G j = .slice (some ⟨g, 0, none⟩) (m j) cap ∧ v' = .slice (some ⟨g, 0, none⟩) (m j + 1) cap ∧ w.grownBy w' (some g)) ∨ ((v'.ownBlock = some w.heap.size ∨ v'.ownBlock = none) ∧ Below w.heap.size w w')) :
    Grown B w0 w' L GR N V (fun i => if i = j then v' else G i) n (fun i => if i = j then m j + 1 else m i) ∧ ∀ i, w'.cell? ⟨GR, i, none⟩ = w.cell? ⟨GR, i, none⟩ ∧ w'.frozen? ⟨GR, i, none⟩ = w.frozen? ⟨GR, i, none⟩ := by
  rcases hc with ⟨g, cap, hG, rfl, hgr⟩ | ⟨hvb, hb⟩
  · have hbj : (G j).ownBlock = some g := by rw [hG]; rfl
    have hK : Keep (fun x => x = g) w w' := ⟨hgr.os, hgr.tape, hgr.output, hgr.size, fun k hk hn => hgr.block k hk (fun e => hn (by injection e))⟩
    have hrow : ∀ (v : Value) (k : Nat) (xs : List Value), w.ownsRow B 5 1 v k xs → v.ownBlock ≠ some g → w'.ownsRow B 5 1 v k xs := fun v k xs hr hne => ownsRow_keep hr hK (fun x hx e => hne (e ▸ hx))
    have hgf := h.gfar j hj g hbj
    refine ⟨{ ls := ⟨fun i hi => ?_, fun i hi => ?_, h.ls.far, h.ls.dis⟩, row := fun i hi => ?_, nm := fun i hi => ?_, lg := ⟨Nat.lt_of_lt_of_le h.lg.1 hgr.size, Nat.lt_of_lt_of_le h.lg.2.1 hgr.size, h.lg.2.2⟩, vfar := h.vfar, gfar := fun i hi x hx => ?_, dis := fun i k hi hk hne x hx => ?_, gs := fun i hi x hx => ?_, keep := h.keep.andThen hK ?_ }, fun i => ?_⟩
    · exact (World.cell?_of_block (hK.block L h.lg.1 (fun e => hgf.2 e.symm))).trans (h.ls.cell i hi)
    · by_cases e : (V i).ownBlock = some g
      · have hij : i = j := by
          rcases Nat.decEq i j with hne | he
          · exact absurd e (h.dis j i hj hi (fun e' => hne e'.symm) g hbj).2
          · exact he
        subst hij
        have hv := h.ls.row i hi
        have hg0 := h.row i hi
        rw [hG] at hg0
        obtain ⟨A, c, hV⟩ := own_slice hv
        rw [hV] at hv e ⊢
        rcases hv.2 with ⟨_, h0⟩ | ⟨g', c', cur, hv1, hb1, hh1, hn1, hm1, hs1, hx1⟩
        · rename_i hv0
          injection hv0 with q1 q2 q3
          subst q1
          simp [Value.ownBlock] at e
        · injection hv1 with q1 q2 q3
          subst q1 q3
          have hgg : g' = g := by simpa [Value.ownBlock] using e
          subst hgg
          rcases hg0.2 with ⟨q, _⟩ | ⟨g2, c2, cur2, hv2, hb2, hh2, hn2, hm2, hs2, hx2⟩
          · cases q
          · injection hv2 with r1 r2 r3
            injection r1 with r1
            injection r1 with r1
            subst r1 r3
            rw [hh1] at hh2
            injection hh2 with hh2
            injection hh2 with hh2
            subst hh2
            have hcc : c = cap := by omega
            subst hcc
            have hp := own_prefix hown (n := n i) (by have := h.nm i hi; omega)
            rw [← marks_succ, marks_take (by have := h.nm i hi; omega)] at hp
            exact hp
      · exact hrow _ _ _ (h.ls.row i hi) e
    · by_cases e : i = j
      · subst e
        simp only [if_true]
        rw [marks_succ]
        exact hown
      · simp only [if_neg e]
        exact hrow _ _ _ (h.row i hi) (fun hx => (h.dis j i hj hi (fun e' => e e'.symm) g hbj).1 hx)
    · by_cases e : i = j
      · subst e; simp only [if_true]; have := h.nm i hi; omega
      · simp only [if_neg e]; exact h.nm i hi
    · by_cases e : i = j
      · simp only [if_pos e] at hx
        have : x = g := by simpa [Value.ownBlock, eq_comm] using hx
        subst this
        exact hgf
      · simp only [if_neg e] at hx
        exact h.gfar i hi x hx
    · by_cases e : i = j
      · subst e
        simp only [if_true] at hx
        have hxg : x = g := by simpa [Value.ownBlock, eq_comm] using hx
        subst hxg
        have hd := h.dis i k hi hk hne x hbj
        simp only [if_neg (show ¬ k = i from fun e' => hne e'.symm)]
        exact hd
      · simp only [if_neg e] at hx
        have hd := h.dis i k hi hk hne x hx
        refine ⟨?_, hd.2⟩
        by_cases e2 : k = j
        · subst e2
          simp only [if_true]
          intro hx2
          have hxg : x = g := by simpa [Value.ownBlock, eq_comm] using hx2
          subst hxg
          exact hd.1 hbj
        · simp only [if_neg e2]
          exact hd.1
    · by_cases e : i = j
      · subst e
        simp only [if_true] at hx
        have hxg : x = g := by simpa [Value.ownBlock, eq_comm] using hx
        subst hxg
        exact h.gs i hi x hbj
      · simp only [if_neg e] at hx
        exact h.gs i hi x hx
    · intro x hx0 e
      subst e
      rcases h.gs j hj x hbj with h1 | h1
      · exact h1
      · omega
    · have hne : GR ≠ g := fun e => hgf.1 e.symm
      exact ⟨World.cell?_of_block (hK.block GR h.lg.2.1 hne), World.frozen?_of_block (hK.block GR h.lg.2.1 hne)⟩
  · have h2 := h.below hb
    have hlt : ∀ (v : Value) (k : Nat) (xs : List Value), w.ownsRow B 5 1 v k xs → ∀ x, v.ownBlock = some x → x < w.heap.size := fun v k xs hr x hx => (hr.lt x hx).2
    have hv' : ∀ x, v'.ownBlock = some x → x = w.heap.size := fun x hx => by
      rcases hvb with e | e
      · rw [e] at hx; injection hx with hx; exact hx.symm
      · rw [e] at hx; cases hx
    refine ⟨{ ls := h2.ls, row := fun i hi => ?_, nm := fun i hi => ?_, lg := h2.lg, vfar := h.vfar, gfar := fun i hi x hx => ?_, dis := fun i k hi hk hne x hx => ?_, gs := fun i hi x hx => ?_, keep := h2.keep }, fun i => ⟨World.cell?_of_block (hb.block GR h.lg.2.1), World.frozen?_of_block (hb.block GR h.lg.2.1)⟩⟩
    · by_cases e : i = j
      · subst e
        simp only [if_true]
        rw [marks_succ]
        exact hown
      · simp only [if_neg e]
        exact h2.row i hi
    · by_cases e : i = j
      · subst e; simp only [if_true]; have := h.nm i hi; omega
      · simp only [if_neg e]; exact h.nm i hi
    · by_cases e : i = j
      · simp only [if_pos e] at hx
        have := hv' x hx
        subst this
        exact ⟨fun e => by have := h.lg.2.1; omega, fun e => by have := h.lg.1; omega⟩
      · simp only [if_neg e] at hx
        exact h.gfar i hi x hx
    · by_cases e : i = j
      · subst e
        simp only [if_true] at hx
        have hxn := hv' x hx
        subst hxn
        simp only [if_neg (show ¬ k = i from fun e' => hne e'.symm)]
        exact ⟨fun hx2 => by have := hlt _ _ _ (h.row k hk) _ hx2; omega, fun hx2 => by have := hlt _ _ _ (h.ls.row k hk) _ hx2; omega⟩
      · simp only [if_neg e] at hx
        have hd := h.dis i k hi hk hne x hx
        refine ⟨?_, hd.2⟩
        by_cases e2 : k = j
        · subst e2
          simp only [if_true]
          intro hx2
          have hxn := hv' x hx2
          subst hxn
          have := hlt _ _ _ (h.row i hi) _ hx
          omega
        · simp only [if_neg e2]
          exact hd.1
    · by_cases e : i = j
      · subst e
        simp only [if_true] at hx
        have hxn := hv' x hx
        subst hxn
        exact .inr h.keep.size
      · simp only [if_neg e] at hx
        exact h.gs i hi x hx
end
end
end Go.Proofs.YtlldgfejcjnpkaaGreat
/- The walk of parapethand.Apart. -/
namespace Go.Proofs.YtlldgfejcjnpkaaGreat
open Go.RowKit
set_option maxHeartbeats 10000000
set_option maxRecDepth 100000

end Go.Proofs.YtlldgfejcjnpkaaGreat
