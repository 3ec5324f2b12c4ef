/- How a row opens a list of calls with their places (a slice of structs of a number and a struct of seven fields): read as a list of pairs. -/
import Derived.Test.YtlldgfejcjnpkaaGreatBase8
set_option linter.unusedVariables false
namespace Go.Proofs.YtlldgfejcjnpkaaGreat
open Go.ChangeShapes Go.WideShapes Go.RowKit Go.Deep

/-- The cells of an op with its place. -/
def popCells (p : Int × OpM) (x : Value) : Array Value := #[.int .i64 p.1, .int .i64 p.2.kind, .int .i64 p.2.n, .int .i64 p.2.flags, .bool p.2.odd, x, .int .i64 p.2.at_, .int .u32 p.2.word]
def PopAt (w : World) (B : Nat) (ad : Addr) (i : Nat) (p : Int × OpM) : Prop :=
  p.2.Ok ∧ p.2.data.length ≤ 140737488351232 ∧ ∃ D c, (∀ j u, (popCells p (.slice D p.2.data.length c))[j]? = some u → w.cell? (ad.add (i * 8 + j)) = some u) ∧ Reads w B 1 D p.2.data.length (u8c p.2.data) ∧ p.2.data.length ≤ c
def PopsAt (w : World) (B : Nat) (A : Option Addr) (n : Nat) (l : List (Int × OpM)) : Prop := l.length = n ∧ (0 < n → ∃ ad, A = some ad ∧ ad.block < B ∧ ∀ i o, l[i]? = some o → PopAt w B ad i o)
theorem PopAt.below {w w' : World} {B : Nat} {ad : Addr} {i : Nat} {o : Int × OpM} (h : PopAt w B ad i o) (hb : Below B w w') (ha : ad.block < B) : PopAt w' B ad i o := by
  obtain ⟨h1, h2, D, c, h3, h4, h5⟩ := h
  exact ⟨h1, h2, D, c, fun j u hu => (hb.cell (by rw [block_of_add]; exact ha)).trans (h3 j u hu), h4.below hb, h5⟩
theorem PopsAt.below {w w' : World} {B n : Nat} {A : Option Addr} {l : List (Int × OpM)} (h : PopsAt w B A n l) (hb : Below B w w') : PopsAt w' B A n l := by
  refine ⟨h.1, fun hn => ?_⟩
  obtain ⟨ad, e, ha, h3⟩ := h.2 hn
  exact ⟨ad, e, ha, fun i o ho => (h3 i o ho).below hb ha⟩
theorem addr8 (ad : Addr) (k j : Nat) (hj : j ≠ 0) : ad.add (k * 8 + j) = ⟨(ad.add (k * 8)).block, (ad.add (k * 8)).off + j, none⟩ := by
  rw [← add_of_add]
  generalize ad.add (k * 8) = y
  unfold Addr.add
  rw [if_neg hj]
/-- One op of the list, as a walk wants it. -/
theorem pops_at {w : World} {B n : Nat} {A : Option Addr} {l : List (Int × OpM)} (h : PopsAt w B A n l) {k : Nat} (hk : k < n) : ∃ ad place o D c, A = some ad ∧ l[k]? = some (place, o) ∧
    (w.cell? (ad.add (k * 8)) = some (.int .i64 place) ∧ w.cell? ⟨(ad.add (k * 8)).block, (ad.add (k * 8)).off + 1, none⟩ = some (.int .i64 o.kind) ∧ w.cell? ⟨(ad.add (k * 8)).block, (ad.add (k * 8)).off + 2, none⟩ = some (.int .i64 o.n) ∧ w.cell? ⟨(ad.add (k * 8)).block, (ad.add (k * 8)).off + 3, none⟩ = some (.int .i64 o.flags) ∧
      w.cell? ⟨(ad.add (k * 8)).block, (ad.add (k * 8)).off + 4, none⟩ = some (.bool o.odd) ∧ w.cell? ⟨(ad.add (k * 8)).block, (ad.add (k * 8)).off + 5, none⟩ = some (.slice D o.data.length c) ∧
      w.cell? ⟨(ad.add (k * 8)).block, (ad.add (k * 8)).off + 6, none⟩ = some (.int .i64 o.at_) ∧ w.cell? ⟨(ad.add (k * 8)).block, (ad.add (k * 8)).off + 7, none⟩ = some (.int .u32 o.word)) ∧
    o.Ok ∧ Reads w B 1 D o.data.length (u8c o.data) ∧ o.data.length ≤ c ∧ o.data.length ≤ 140737488351232 ∧ ad.block < B := by
  obtain ⟨ad, hA, hb, hall⟩ := h.2 (by omega)
  have hkl : k < l.length := by rw [h.1]; exact hk
  obtain ⟨⟨place, o⟩, ho⟩ : ∃ o, l[k]? = some o := ⟨_, List.getElem?_eq_getElem hkl⟩
  obtain ⟨h1, h2, D, c, h3, h4, h5⟩ := hall k _ ho
  refine ⟨ad, place, o, D, c, hA, ho, ⟨h3 0 _ rfl, ?_, ?_, ?_, ?_, ?_, ?_, ?_⟩, h1, h4, h5, h2, hb⟩
  · rw [← addr8 ad k 1 (by omega)]; exact h3 1 _ rfl
  · rw [← addr8 ad k 2 (by omega)]; exact h3 2 _ rfl
  · rw [← addr8 ad k 3 (by omega)]; exact h3 3 _ rfl
  · rw [← addr8 ad k 4 (by omega)]; exact h3 4 _ rfl
  · rw [← addr8 ad k 5 (by omega)]; exact h3 5 _ rfl
  · rw [← addr8 ad k 6 (by omega)]; exact h3 6 _ rfl
  · rw [← addr8 ad k 7 (by omega)]; exact h3 7 _ rfl
section
variable {H : Type} {enc : TypeId × Value → H} {P : Program} {W : World} {base : Nat} {spare : Nat → Bool} {held : Bool}
theorem trod_struct2 {t : TypeId} {f0 f1 : Field} {fuel : Nat} {cs : List Value} {x : DataW H × List MemPlace} (ht : P.underlying t = some (.struct #[f0, f1])) (h : DataW.trod enc P W base spare held fuel t cs = some x) :
    ∃ y0 y1 n, x = (.agg [y0.1, y1.1], y0.2 ++ y1.2) ∧ cs.length = P.cellsOf t ∧ DataW.trod enc P W base spare held n f0.type ((cs.drop f0.offset).take (P.cellsOf f0.type)) = some y0 ∧ DataW.trod enc P W base spare held n f1.type ((cs.drop f1.offset).take (P.cellsOf f1.type)) = some y1 := by
  obtain ⟨xs, n, _, rfl, hl, hlen, hf⟩ := DataW.trod_struct ht h
  match xs, hlen with
  | [y0, y1], _ => exact ⟨y0, y1, n, by simp, hl, by simpa using hf 0 f0 rfl, by simpa using hf 1 f1 rfl⟩
theorem reads_pops {t e te : TypeId} {g0 g1 f0 f1 f2 f3 f4 f5 f6 : Field} {a : Option Addr} {len cap : Nat} {d : DataW H} {ps : List MemPlace} {ts : List TypeId} {ds : List (DataW H)} {jj : Nat}
    (hsz : (DataW.weightsEach P ts ds).all (· ≤ reachBytes) = true) (ht : ts[jj]? = some t) (hd : ds[jj]? = some d)
    (hu : P.underlying t = some (.slice e)) (he2 : P.underlying e = some (.struct #[g0, g1])) (hc : P.cellsOf e = 8) (hp : P.underlying g0.type = some (.int .i64)) (he : P.underlying g1.type = some (.struct #[f0, f1, f2, f3, f4, f5, f6]))
    (og : g0.offset = 0 ∧ g1.offset = 1 ∧ P.cellsOf g0.type = 1 ∧ P.cellsOf g1.type = 7)
    (h0 : P.underlying f0.type = some (.int .i64)) (h1 : P.underlying f1.type = some (.int .i64)) (h2 : P.underlying f2.type = some (.int .i64)) (h3 : P.underlying f3.type = some .bool)
    (h4 : P.underlying f4.type = some (.slice te)) (h4e : P.underlying te = some (.int .u8)) (h4c : P.cellsOf te = 1) (h4b : P.bytesOf te = 1) (h5 : P.underlying f5.type = some (.int .i64)) (h6 : P.underlying f6.type = some (.int .u32))
    (o0 : f0.offset = 0 ∧ f1.offset = 1 ∧ f2.offset = 2 ∧ f3.offset = 3 ∧ f4.offset = 4 ∧ f5.offset = 5 ∧ f6.offset = 6)
    (c0 : P.cellsOf f0.type = 1 ∧ P.cellsOf f1.type = 1 ∧ P.cellsOf f2.type = 1 ∧ P.cellsOf f3.type = 1 ∧ P.cellsOf f4.type = 1 ∧ P.cellsOf f5.type = 1 ∧ P.cellsOf f6.type = 1)
    (h : DataW.Trod enc P W base spare held t (.slice a len cap) d ps) :
    ∃ l : List (Int × OpM), PopsAt W W.heap.size a len l := by
  obtain ⟨fuel, hf⟩ := h
  rcases Go.Deep.open_slice hu hf with ⟨hcs, _⟩ | ⟨x, l, c, m, n, D, Pl, hcs, _, hl, _, hm, hx, heach⟩
  · simp [Value.cells] at hcs
    obtain ⟨rfl, rfl, rfl⟩ := hcs
    exact ⟨[], rfl, fun h => absurd h (by omega)⟩
  · simp [Value.cells] at hcs
    obtain ⟨rfl, rfl, rfl⟩ := hcs
    have hlm : len ≤ m := by rw [hm]; split <;> omega
    obtain ⟨hxd, _⟩ := Prod.mk.inj hx
    have each : ∀ i, ∃ o : Int × OpM, i < len → PopAt W W.heap.size x i o := by
      intro i
      by_cases hi : i < len
      · obtain ⟨cs, h7, htr⟩ := heach i (by omega)
        have hblk := World.cells?_block h7 (by rw [hc]; omega)
        rw [hc] at h7
        obtain ⟨_, hlen, hcell⟩ := World.cells?_some h7
        obtain ⟨yp, yo, kk, hD2, _, tp, tq⟩ := trod_struct2 he2 htr
        obtain ⟨og0, og1, og2, og3⟩ := og
        rw [og0, og2] at tp
        rw [og1, og3] at tq
        match cs, hlen with
        | [vp, v0, v1, v2, v3, v4, v5, v6], _ =>
          have tq' : DataW.trod enc P W base spare held kk g1.type [v0, v1, v2, v3, v4, v5, v6] = some yo := by simpa using tq
          obtain ⟨y0, y1, y2, y3, y4, y5, y6, k, hD, _, t0, t1, t2, t3, t4, t5, t6⟩ := trod_struct7 he tq'
          obtain ⟨zp, ep, _, wp⟩ := DataW.trod_int hp tp
          obtain ⟨a0, a1, a2, a3, a4, a5, a6⟩ := o0
          obtain ⟨b0, b1, b2, b3, b4, b5, b6⟩ := c0
          rw [a0, b0] at t0
          rw [a1, b1] at t1
          rw [a2, b2] at t2
          rw [a3, b3] at t3
          rw [a4, b4] at t4
          rw [a5, b5] at t5
          rw [a6, b6] at t6
          obtain ⟨z0, e0, _, w0⟩ := DataW.trod_int h0 t0
          obtain ⟨z1, e1, _, w1⟩ := DataW.trod_int h1 t1
          obtain ⟨z2, e2, _, w2⟩ := DataW.trod_int h2 t2
          obtain ⟨z3, e3, _⟩ := DataW.trod_bool h3 t3
          obtain ⟨z5, e5, _, w5⟩ := DataW.trod_int h5 t5
          obtain ⟨z6, e6, _, w6⟩ := DataW.trod_int h6 t6
          simp at ep e0 e1 e2 e3 e5 e6
          subst ep e0 e1 e2 e3 e5 e6
          have t4' : DataW.trod enc P W base spare held k f4.type [v4] = some y4 := by simpa using t4
          obtain ⟨A4, n4, c4, rfl⟩ : ∃ A n c, v4 = .slice A n c := by
            rcases Go.Deep.open_slice h4 t4' with ⟨h, _⟩ | ⟨x', l', c', _, _, _, _, h, _⟩
            · simp at h; exact ⟨_, _, _, h⟩
            · simp at h; exact ⟨_, _, _, h⟩
          have ht4 : DataW.Trod enc P W base spare held f4.type (.slice A4 n4 c4) y4.1 y4.2 := ⟨k, by simpa [Value.cells] using t4'⟩
          obtain ⟨zs, zl, hr, wz, hle, _, hnn⟩ := reads_ints h4 h4e h4c ht4
          have hbl : (bytesOf zs).length = n4 := by simp [bytesOf, zl]
          have hbig : n4 ≤ 140737488351232 := by
            rcases Go.Deep.open_slice h4 t4' with ⟨h, _⟩ | ⟨x', l', c', m', _, D', _, h, _, hl', _, hm', hx', _⟩
            · simp at h; omega
            · simp at h
              obtain ⟨rfl, rfl, rfl⟩ := h
              have hy4 : y4.1 = .slice ((List.range n4).map D') ((List.range (m' - n4)).map fun j => D' (n4 + j)) := (Prod.mk.inj hx').1
              have hmem : D i ∈ (List.range len).map D := List.mem_map.2 ⟨i, List.mem_range.2 hi, rfl⟩
              have hDi : D i = .agg [yp.1, yo.1] := (Prod.mk.inj hD2).1
              have hyo : yo.1 = .agg [y0.1, y1.1, y2.1, y3.1, y4.1, y5.1, y6.1] := by rw [hD]
              have hw : (((List.range n4).map D').length + ((List.range (m' - n4)).map fun j => D' (n4 + j)).length) * P.bytesOf te ∈ DataW.weightsEach P ts ds := by
                refine DataW.weights_mem_each ht hd _ ?_
                rw [hxd]
                simp only [DataW.weights, hu, List.mem_cons, List.mem_append]
                refine .inr (.inl (weightsAll_mem hmem _ ?_))
                rw [hDi]
                simp only [DataW.weights, he2]
                refine DataW.weights_mem_each (j := 1) (t := g1.type) rfl (d := yo.1) rfl _ ?_
                rw [hyo]
                simp only [DataW.weights, he]
                refine DataW.weights_mem_each (j := 4) (t := f4.type) rfl (d := y4.1) rfl _ ?_
                rw [hy4]
                simp [DataW.weights, h4]
              have := List.all_eq_true.1 hsz _ hw
              rw [h4b] at this
              simp [reachBytes] at this
              omega
          refine ⟨⟨zp, ⟨z0, z1, z2, z3, bytesOf zs, z5, z6⟩⟩, fun _ => ⟨⟨?_, wf_u32 w6, ?_⟩, by simp only [hbl]; exact hbig, A4, c4, ?_, ?_, ?_⟩⟩
          · have := wf_i64 w5; exact ⟨this.1, by simp only; omega⟩
          · have := wf_i64 w1; exact ⟨this.1, by simp only; omega⟩
          · intro j u hu'
            have hj : j < 8 := (Array.getElem?_eq_some_iff.1 hu').1
            rw [← add_of_add, hcell j hj]
            simp only [hbl] at hu'
            simpa [popCells] using hu'
          · simp only [hbl]
            exact reads_bytes hr wz
          · simp only [hbl]; exact hle
      · exact ⟨⟨0, ⟨0, 0, 0, false, [], 0, 0⟩⟩, fun h => absurd h hi⟩
    refine ⟨(List.range len).map (fun i => Classical.choose (each i)), by simp, fun hn => ⟨x, rfl, ?_, ?_⟩⟩
    · obtain ⟨cs, h7, _⟩ := heach 0 (by omega)
      have := World.cells?_block h7 (by rw [hc]; omega)
      rwa [block_of_add] at this
    · intro i o ho
      have hi : i < len := by
        have := (List.getElem?_eq_some_iff.1 ho).1
        simpa using this
      rw [List.getElem?_map, List.getElem?_range hi] at ho
      simp only [Option.map_some, Option.some.injEq] at ho
      rw [← ho]
      exact Classical.choose_spec (each i) hi
end
end Go.Proofs.YtlldgfejcjnpkaaGreat
