/- How the rows of this seat open a slice of records: read as a list of records. -/
import Derived.Test.YtialafoofjgchaaRowKit
import Derived.Test.YtialafoofjgchaaDiagA
namespace Go.Proofs.Ytialafoofjgchaa
open Go.ChangeShapes Go.WideShapes Go.RowKit
section
variable {H : Type} {enc : TypeId × Value → H} {P : Program} {W : World} {base : Nat} {spare : Nat → Bool} {held : Bool}
def Rec.wf (r : Rec) : Prop := (Lit.int .i64 r.at_).wf = true ∧ (Lit.int .i64 r.code).wf = true ∧ (Lit.int .u32 r.s).wf = true ∧ (Lit.int .u32 r.k).wf = true
theorem reads_recs {t e : TypeId} {f0 f1 f2 f3 : Field} {a : Option Addr} {len cap : Nat} {d : DataW H} {ps : List MemPlace} (hu : P.underlying t = some (.slice e)) (he : P.underlying e = some (.struct #[f0, f1, f2, f3])) (hc : P.cellsOf e = 4)
    (h0 : P.underlying f0.type = some (.int .i64)) (h1 : P.underlying f1.type = some (.int .i64)) (h2 : P.underlying f2.type = some (.int .u32)) (h3 : P.underlying f3.type = some (.int .u32))
    (o0 : f0.offset = 0 ∧ f1.offset = 1 ∧ f2.offset = 2 ∧ f3.offset = 3) (c0 : P.cellsOf f0.type = 1 ∧ P.cellsOf f1.type = 1 ∧ P.cellsOf f2.type = 1 ∧ P.cellsOf f3.type = 1)
    (h : DataW.Trod enc P W base spare held t (.slice a len cap) d ps) :
    ∃ l : List Rec, l.length = len ∧ Reads W W.heap.size 4 a len (recsCells l) ∧ (∀ r ∈ l, r.wf) := by
  obtain ⟨fuel, hf⟩ := h
  rcases Go.Deep.open_slice hu hf with ⟨hcs, _⟩ | ⟨x, l, c, m, n, D, Pl, hcs, _, hl, _, hm, _, heach⟩
  · simp [Value.cells] at hcs
    obtain ⟨rfl, rfl, rfl⟩ := hcs
    exact ⟨[], rfl, ⟨by simp [recsCells], fun h => absurd h (by omega)⟩, by simp⟩
  · simp [Value.cells] at hcs
    obtain ⟨rfl, rfl, rfl⟩ := hcs
    have hlm : len ≤ m := by rw [hm]; split <;> omega
    have each : ∀ i, ∃ r : Rec, i < len → r.wf ∧ ∀ j u, r.cells.toList[j]? = some u → W.cell? (x.add (i * 4 + j)) = some u := by
      intro i
      by_cases hi : i < len
      · obtain ⟨cs, h4, htr⟩ := heach i (by omega)
        rw [hc] at h4
        obtain ⟨_, hlen, hcell⟩ := World.cells?_some h4
        obtain ⟨y0, y1, y2, y3, k, _, _, t0, t1, t2, t3⟩ := Go.Joins.trod_struct4 he htr
        obtain ⟨a0, a1, a2, a3⟩ := o0
        obtain ⟨b0, b1, b2, b3⟩ := c0
        rw [a0, b0] at t0
        rw [a1, b1] at t1
        rw [a2, b2] at t2
        rw [a3, b3] at t3
        match cs, hlen with
        | [v0, v1, v2, v3], _ =>
          obtain ⟨z0, e0, _, w0⟩ := DataW.trod_int h0 t0
          obtain ⟨z1, e1, _, w1⟩ := DataW.trod_int h1 t1
          obtain ⟨z2, e2, _, w2⟩ := DataW.trod_int h2 t2
          obtain ⟨z3, e3, _, w3⟩ := DataW.trod_int h3 t3
          simp at e0 e1 e2 e3
          subst e0 e1 e2 e3
          refine ⟨⟨z0, z1, z2, z3⟩, fun _ => ⟨⟨w0, w1, w2, w3⟩, fun j u hu => ?_⟩⟩
          have hj : j < 4 := (List.getElem?_eq_some_iff.1 hu).1
          rw [← add_of_add, hcell j hj]
          exact hu
      · exact ⟨Rec.zero, fun h => absurd h hi⟩
    refine ⟨(List.range len).map (fun i => Classical.choose (each i)), by simp, ⟨by rw [recsCells_length]; simp, fun hn => ⟨x, rfl, ?_, ?_⟩⟩, ?_⟩
    · obtain ⟨cs, h4, _⟩ := heach 0 (by omega)
      rw [hc] at h4
      have := World.cells?_block h4 (by omega)
      rwa [block_of_add] at this
    · intro j u hu
      have hj : j < len * 4 := by
        have := (List.getElem?_eq_some_iff.1 hu).1
        rw [recsCells_length] at this
        simpa using this
      have hk : j / 4 < len := by omega
      have hr : ((List.range len).map (fun i => Classical.choose (each i)))[j / 4]? = some (Classical.choose (each (j / 4))) := by
        rw [List.getElem?_map, List.getElem?_range hk]; rfl
      have hg := recsCells_get _ (j / 4) _ hr (j % 4) (Nat.mod_lt _ (by omega))
      have e : j / 4 * 4 + j % 4 = j := by omega
      rw [e] at hg
      have := (Classical.choose_spec (each (j / 4)) hk).2 (j % 4) u (hg ▸ hu)
      rwa [e] at this
    · intro r hr
      obtain ⟨i, hi, rfl⟩ := List.mem_map.1 hr
      exact (Classical.choose_spec (each i) (List.mem_range.1 hi)).1
end
end Go.Proofs.Ytialafoofjgchaa
