/- Between the base and the laws, part 1: contracts and plain lemmas, no statement. -/
import Derived.Test.YtlldgfejcjnpkaaGreatBase1
import Derived.Test.YtlldgfejcjnpkaaGreatBase11
import Derived.Test.YtlldgfejcjnpkaaGreatBase34
import Derived.Laws.IdiomRangeMap
import Derived.Test.YtlldgfejcjnpkaaGreatShelf
import Derived.Deep.RegionHeld
set_option linter.unusedVariables false
/- A map from an int kind to values that a call makes, only ever adds new keys to, looks up and ranges over. No program here. -/
namespace Go.Proofs.YtlldgfejcjnpkaaGreat
open Go.RowKit
namespace MapG
variable {κ : IntKind}

def ent (κ : IntKind) (i : Nat) (p : Int × Value) : MapEntry := ⟨.int κ p.1, p.2, i⟩
def entsK (κ : IntKind) (l : List (Int × Value)) (k : Nat) : List MapEntry := (l.zipIdx k).map fun x => ent κ x.2 x.1
def MapIs (κ : IntKind) (w : World) (mp : Nat) (l : List (Int × Value)) : Prop := w.heap[mp]? = some (.map (entsK κ l 0).toArray l.length)
def lk (l : List (Int × Value)) (c : Int) : Option Value := (l.find? fun p => p.1 == c).map (·.2)

theorem lk_nil (c : Int) : lk [] c = none := rfl
theorem lk_cons (p : Int × Value) (l : List (Int × Value)) (c : Int) : lk (p :: l) c = if p.1 = c then some p.2 else lk l c := by
  unfold lk
  by_cases h : p.1 = c <;> simp [h]
theorem lk_snoc (l : List (Int × Value)) (d : Int) (b : Value) (c : Int) : lk (l ++ [(d, b)]) c = (lk l c).or (if d = c then some b else none) := by
  induction l with
  | nil => simp [lk_cons, lk_nil]
  | cons p r ih =>
    rw [List.cons_append, lk_cons, lk_cons, ih]
    by_cases h : p.1 = c <;> simp [h]
theorem lk_none {l : List (Int × Value)} {c : Int} : lk l c = none ↔ c ∉ l.map Prod.fst := by
  induction l with
  | nil => simp [lk_nil]
  | cons p r ih =>
    rw [lk_cons]
    by_cases h : p.1 = c
    · simp [h]
    · simp only [h, if_false, ih, List.map_cons, List.mem_cons, not_or]
      exact ⟨fun x => ⟨fun e => h e.symm, x⟩, fun x => x.2⟩
theorem lk_mem {l : List (Int × Value)} {c : Int} {b : Value} (h : lk l c = some b) : (c, b) ∈ l := by
  induction l with
  | nil => simp [lk_nil] at h
  | cons p r ih =>
    rw [lk_cons] at h
    by_cases hp : p.1 = c
    · simp only [hp, if_true, Option.some.injEq] at h
      subst hp; subst h
      exact List.mem_cons_self
    · simp only [hp, if_false] at h
      exact List.mem_cons_of_mem _ (ih h)
theorem lk_of_mem {l : List (Int × Value)} {c : Int} {b : Value} (hn : (l.map Prod.fst).Nodup) (h : (c, b) ∈ l) : lk l c = some b := by
  induction l with
  | nil => cases h
  | cons p r ih =>
    rw [lk_cons]
    rw [List.map_cons, List.nodup_cons] at hn
    rcases List.mem_cons.1 h with rfl | hr
    · simp
    · have : p.1 ≠ c := fun e => hn.1 (e ▸ List.mem_map.2 ⟨(c, b), hr, rfl⟩)
      simp [this, ih hn.2 hr]

theorem findNow_ents (c : Int) : ∀ (l : List (Int × Value)) (k : Nat), ∃ i, Instr.findNow (.int κ) (.int κ c) (entsK κ l k) k = some ((lk l c).map fun b => (i, b))
  | [], k => ⟨0, rfl⟩
  | p :: l, k => by
    obtain ⟨i, h⟩ := findNow_ents c l (k + 1)
    by_cases hp : p.1 = c
    · refine ⟨k, ?_⟩
      subst hp
      simp [entsK, List.zipIdx_cons, ent, Instr.findNow, Instr.sameNow, lk_cons]
    · refine ⟨i, ?_⟩
      have hp' : (c == p.1) = false := by simp; exact fun e => hp e.symm
      have : Instr.findNow (.int κ) (.int κ c) (entsK κ (p :: l) k) k = Instr.findNow (.int κ) (.int κ c) (entsK κ l (k + 1)) (k + 1) := by
        simp [entsK, List.zipIdx_cons, ent, Instr.findNow, Instr.sameNow, hp']
      rw [this, h, lk_cons, if_neg hp]

section
variable {P : Program} {w : World} {mp : Nat} {l : List (Int × Value)} {mt kt et : TypeId} {s : Nat}
theorem run_findKey (hk : P.underlying kt = some (.int κ)) (c : Int) (w : World) : ∃ i, (Instr.findKey kt (.int κ c) (entsK κ l 0)).run P w = .ok ((lk l c).map fun b => (i, b)) w := by
  obtain ⟨i, h⟩ := findNow_ents (κ := κ) c l 0
  exact ⟨i, by simp [Instr.findKey, run_underlying hk, h, Result.andThen]⟩
theorem run_checkKey (hk : P.underlying kt = some (.int κ)) (e : Bool) (n : Nat) (v : Value) (w : World) : (Instr.checkKey e (n + 1) kt v).run P w = .ok () w := by
  simp [Instr.checkKey, run_underlying hk, Result.andThen]
theorem MapIs.run_lookup (h : MapIs κ w mp l) (hm : P.underlying mt = some (.map kt et)) (hk : P.underlying kt = some (.int κ)) {z : Value} (hz : (zeroValue et).run P w = .ok z w) (c : Int) :
    (Instr.lookup mt (.map (some mp)) (.int κ c) false).run P w = .ok ((lk l c).getD z) w := by
  obtain ⟨i, hf⟩ := run_findKey (l := l) hk c w
  have hc := fun e n => run_checkKey (P := P) hk e n (.int κ c) w
  unfold MapIs at h
  have h10 : (10000 : Nat) = 9999 + 1 := rfl
  cases hl : lk l c with
  | none => rw [hl] at hf; simp [Instr.lookup, run_underlying hm, getObj, Sem.run, h, h10, hc, hf, hz, Result.andThen]
  | some b => rw [hl] at hf; simp [Instr.lookup, run_underlying hm, getObj, Sem.run, h, h10, hc, hf, Result.andThen]
theorem MapIs.run_lookup2 (h : MapIs κ w mp l) (hm : P.underlying mt = some (.map kt et)) (hk : P.underlying kt = some (.int κ)) {z : Value} (hz : (zeroValue et).run P w = .ok z w) (c : Int) :
    (Instr.lookup mt (.map (some mp)) (.int κ c) true).run P w = .ok (.tuple #[(lk l c).getD z, .bool (lk l c).isSome]) w := by
  obtain ⟨i, hf⟩ := run_findKey (l := l) hk c w
  have hc := fun e n => run_checkKey (P := P) hk e n (.int κ c) w
  unfold MapIs at h
  have h10 : (10000 : Nat) = 9999 + 1 := rfl
  cases hl : lk l c with
  | none => rw [hl] at hf; simp [Instr.lookup, run_underlying hm, getObj, Sem.run, h, h10, hc, hf, hz, Result.andThen]
  | some b => rw [hl] at hf; simp [Instr.lookup, run_underlying hm, getObj, Sem.run, h, h10, hc, hf, Result.andThen]
theorem MapIs.run_len (h : MapIs κ w mp l) (hm : P.underlying mt = some (.map kt et)) (t : TypeId) : (Builtin.len_ #[mt] t #[.map (some mp)]).run P w = .ok (.int .i64 l.length) w := by
  unfold MapIs at h
  have hlen : (entsK κ l 0).length = l.length := by simp [entsK]
  have hg : goInt (l.length : Int) = .int .i64 (l.length : Int) := rfl
  simp [Builtin.len_, run_underlying hm, getObj, Sem.run, h, Result.andThen, hlen, hg]
theorem entsK_snoc (l : List (Int × Value)) (p : Int × Value) (k : Nat) : entsK κ (l ++ [p]) k = entsK κ l k ++ [ent κ (k + l.length) p] := by
  simp [entsK, List.zipIdx_append]
theorem MapIs.run_update (h : MapIs κ w mp l) (hm : P.underlying mt = some (.map kt et)) (hk : P.underlying kt = some (.int κ)) (c : Int) (b : Value) (hn : lk l c = none) :
    (Instr.mapUpdate mt (.map (some mp)) (.int κ c) b).run P w = .ok () { w with heap := w.heap.setIfInBounds mp (.map (entsK κ (l ++ [(c, b)]) 0).toArray (l.length + 1)) } := by
  obtain ⟨i, hf⟩ := run_findKey (l := l) hk c w
  have hc := fun e n => run_checkKey (P := P) hk e n (.int κ c) w
  unfold MapIs at h
  have h10 : (10000 : Nat) = 9999 + 1 := rfl
  rw [hn] at hf
  simp [Instr.mapUpdate, run_underlying hm, getObj, setObj, Sem.run, h, h10, hc, hf, Result.andThen, entsK_snoc, ent]
theorem MapIs.lt (h : MapIs κ w mp l) : mp < w.heap.size := obj_lt h
theorem MapIs.updated (h : MapIs κ w mp l) (c : Int) (b : Value) : MapIs κ { w with heap := w.heap.setIfInBounds mp (.map (entsK κ (l ++ [(c, b)]) 0).toArray (l.length + 1)) } mp (l ++ [(c, b)]) := by
  have := h.lt
  simp [MapIs, this]
theorem Blk.ne_map {g : Nat} {t : TypeId} {cs : Array Value} (hb : Blk w g t cs) (h : MapIs κ w mp l) : g ≠ mp := by
  rintro rfl
  unfold Blk at hb
  unfold MapIs at h
  rw [hb] at h
  cases h
theorem own_ne_map {base : Nat} {e : TypeId} {size n : Nat} {v : Value} {xs : List Value} (hr : w.ownsRow base e size v n xs) (h : MapIs κ w mp l) : ∀ g, v.ownBlock = some g → g ≠ mp := by
  rintro g hg rfl
  rcases hr.2 with ⟨rfl, _⟩ | ⟨g', cap, cur, rfl, _, hh, _⟩
  · simp [Value.ownBlock] at hg
  · simp only [Value.ownBlock, Option.some.injEq] at hg
    subst hg
    unfold MapIs at h
    rw [hh] at h
    cases h
theorem keep_setObj (w : World) (mp : Nat) (o : Obj) : Keep (fun k => k = mp) w { w with heap := w.heap.setIfInBounds mp o } :=
  ⟨rfl, rfl, rfl, by simp, fun k _ hn => by simp only [Array.getElem?_setIfInBounds]; rw [if_neg (fun e => hn e.symm)]⟩
end

/-- 'for k := range m' under way: the entries in the places 'seen' have been. -/
def IterAt (w : World) (r mp n : Nat) (seen : Array Nat) : Prop := w.heap[r]? = some (.mapIter (some mp) n seen n)

theorem born_ents (l : List (Int × Value)) : ∀ (k : Nat), ∀ e ∈ entsK κ l k, k ≤ e.born ∧ e.born < k + l.length ∧ ∃ p, l[e.born - k]? = some p ∧ e = ent κ e.born p := by
  induction l with
  | nil => intro k e he; simp [entsK] at he
  | cons p r ih =>
    intro k e he
    have : entsK κ (p :: r) k = ent κ k p :: entsK κ r (k + 1) := by simp [entsK, List.zipIdx_cons]
    rw [this] at he
    rcases List.mem_cons.1 he with rfl | h
    · exact ⟨Nat.le_refl _, by simp [ent], p, by simp [ent], rfl⟩
    · obtain ⟨h1, h2, q, h3, h4⟩ := ih (k + 1) e h
      refine ⟨by omega, by simp only [List.length_cons]; omega, q, ?_, h4⟩
      obtain ⟨m, hm⟩ : ∃ m, e.born - k = m + 1 := ⟨e.born - k - 1, by omega⟩
      rw [hm, List.getElem?_cons_succ, ← h3]
      congr 1
      omega
theorem mem_ents (l : List (Int × Value)) (i : Nat) (h : i < l.length) : ent κ i l[i] ∈ entsK κ l 0 := by
  unfold entsK
  exact List.mem_map.2 ⟨(l[i], i), List.mem_zipIdx_iff_getElem?.2 (by simp [h]), rfl⟩
theorem born_nodup (l : List (Int × Value)) (k : Nat) : ((entsK κ l k).map (·.born)).Nodup := by
  have : (entsK κ l k).map (·.born) = List.range' k l.length := by
    unfold entsK
    rw [List.map_map]
    have : ((fun x : MapEntry => x.born) ∘ fun x : (Int × Value) × Nat => ent κ x.2 x.1) = Prod.snd := by funext x; rfl
    rw [this, List.zipIdx_map_snd]
  rw [this]
  exact List.nodup_range'

section
variable {P : Program} {w : World} {mp r : Nat} {l : List (Int × Value)} {mt kt et : TypeId} {seen : Array Nat}
theorem MapIs.run_range (h : MapIs κ w mp l) (hm : P.underlying mt = some (.map kt et)) :
    (Instr.range mt (.map (some mp))).run P w = .ok (.pointer (some ⟨w.heap.size, 0, none⟩)) (w.alloc (.mapIter (some mp) l.length #[] l.length)) := by
  unfold MapIs at h
  simp [Instr.range, run_underlying hm, getObj, Sem.run, h, Result.andThen]
theorem MapIs.run_next (h : MapIs κ w mp l) (hi : IterAt w r mp l.length seen) (ty : TypeId) :
    ((∀ i, i < l.length → i ∈ seen.toList) ∧ (Instr.next (.pointer (some ⟨r, 0, none⟩)) false ty).run P w = .ok (.tuple #[.bool false]) w) ∨
    ∃ i p w', l[i]? = some p ∧ i ∉ seen.toList ∧ (Instr.next (.pointer (some ⟨r, 0, none⟩)) false ty).run P w = .ok (.tuple #[.bool true, .int κ p.1, p.2]) w' ∧
      IterAt w' r mp l.length (seen.push i) ∧ Keep (fun k => k = r) w w' ∧ w'.heap.size = w.heap.size ∧ MapIs κ w' mp l ∧
      (Instr.entry (.pointer (some ⟨r, 0, none⟩))).run P w' = .ok (.tuple #[.int κ p.1, p.2]) w' := by
  unfold MapIs at h
  unfold IterAt at hi
  have hne : mp ≠ r := fun e => by subst e; rw [h] at hi; cases hi
  have hb := born_ents (κ := κ) l 0
  have hall : (!seen.isEmpty && !(entsK κ l 0).toArray.isEmpty && (entsK κ l 0).toArray.all (fun x => decide (x.born ≥ l.length))) = false := by
    by_cases he : l = []
    · subst he; simp [entsK]
    · have h0 : 0 < l.length := by rcases l with _ | ⟨a, b⟩ <;> simp_all
      have hm := mem_ents (κ := κ) l 0 h0
      have : (entsK κ l 0).toArray.all (fun x => decide (x.born ≥ l.length)) = false := by
        rw [Bool.eq_false_iff]
        intro ha
        rw [List.all_toArray, List.all_eq_true] at ha
        have := ha _ hm
        simp [ent] at this
        exact he this
      rw [this, Bool.and_false]
  have hold : ((entsK κ l 0).toArray.filter fun e => !seen.contains e.born).filter (fun x => decide (x.born < l.length)) = (entsK κ l 0).toArray.filter fun e => !seen.contains e.born := by
    rw [Array.filter_eq_self]
    intro e he
    have := (Array.mem_filter.1 he).1
    have := (hb e (by simpa using this)).2.1
    simpa using this
  have hnew : ((entsK κ l 0).toArray.filter fun e => !seen.contains e.born).filter (fun x => decide (x.born ≥ l.length)) = #[] := by
    rw [Array.filter_eq_empty_iff]
    intro e he
    have := (Array.mem_filter.1 he).1
    have := (hb e (by simpa using this)).2.1
    simpa using this
  generalize hL : (entsK κ l 0).toArray.filter (fun e => !seen.contains e.born) = left at hold hnew
  have hstart : (Instr.next (.pointer (some ⟨r, 0, none⟩)) false ty).run P w = (do
      match ((if left.isEmpty then #[none] else #[]) ++ (left ++ #[]).map some)[← choose (.mapNext ((if left.isEmpty then #[none] else #[]) ++ (left ++ #[]).map some).size)]? with
      | some (some e) =>
        setObj r (.mapIter (some mp) l.length (seen.push e.born) l.length)
        pure (.tuple #[.bool true, e.key, e.val])
      | some none => pure (.tuple #[.bool false])
      | none => stuck "Next: no such candidate" : Sem Value).run P w := by
    simp only [Instr.next, getObj, Sem.run_bind, Sem.run, hi, h, hall, hold, hnew, hL, Result.andThen_ok, Bool.false_eq_true, if_false]
    rfl
  rw [hstart]
  clear hstart hall hold hnew
  by_cases h0 : left = #[]
  · refine .inl ⟨fun i hil => ?_, ?_⟩
    · rw [h0, Array.filter_eq_empty_iff] at hL
      have := hL (ent κ i l[i]) (by simpa using mem_ents (κ := κ) l i hil)
      simpa [ent] using this
    · subst h0
      simp [choose, Sem.run, Question.forced]
  · have hpos : 0 < left.size := by
      rcases Nat.eq_zero_or_pos left.size with hz | hz
      · exact absurd (Array.eq_empty_of_size_eq_zero hz) h0
      · exact hz
    have hemp : left.isEmpty = false := by
      rw [Bool.eq_false_iff]
      intro hx
      exact h0 (by simpa using hx)
    obtain ⟨k, n, hk, hch⟩ : ∃ k n, k < left.size ∧ ∀ (β : Type) (f : Nat → Sem β), ((choose (.mapNext left.size)) >>= f).run P w = (f k).run P (w.drewN n) := by
      by_cases hf : left.size ≤ 1
      · exact ⟨0, 0, hpos, fun β f => by simp [choose, Bind.bind, Sem.bind, Sem.run, Question.forced, hf, World.drewN]⟩
      · exact ⟨w.tape w.drawn (.mapNext left.size) % left.size, 1, Nat.mod_lt _ hpos, fun β f => by simp [choose, Bind.bind, Sem.bind, Sem.run, Question.forced, Question.cut, hf, World.drewN]⟩
    have hmem : left[k] ∈ (entsK κ l 0).toArray.filter (fun e => !seen.contains e.born) := by rw [hL]; exact Array.getElem_mem hk
    obtain ⟨hm1, hm2⟩ := Array.mem_filter.1 hmem
    obtain ⟨_, hbl, p, hp, he⟩ := hb left[k] (by simpa using hm1)
    refine .inr ⟨left[k].born, p, { w with heap := w.heap.setIfInBounds r (.mapIter (some mp) l.length (seen.push left[k].born) l.length), drawn := w.drawn + n }, by simpa using hp, by simpa using hm2, ?_, ?_, ?_, ?_, ?_, ?_⟩
    · simp only [hemp, Bool.false_eq_true, if_false, Array.append_empty, Array.empty_append, Array.size_map]
      rw [hch]
      have hg : (left.map some)[k]? = some (some left[k]) := by simp [hk]
      rw [hg]
      have e1 : left[k].key = .int κ p.1 := by rw [he]; rfl
      have e2 : left[k].val = p.2 := by rw [he]; rfl
      simp [setObj, Sem.run, hi, Result.andThen, e1, e2, World.drewN]
    · have := obj_lt hi
      simp [IterAt, this]
    · exact ⟨rfl, rfl, rfl, by simp, fun k' _ hn => by simp only [Array.getElem?_setIfInBounds]; rw [if_neg (fun e => hn e.symm)]⟩
    · simp
    · simp only [MapIs, Array.getElem?_setIfInBounds]
      rw [if_neg (fun e => hne e.symm)]
      exact h
    · have h1 : (w.heap.setIfInBounds r (.mapIter (some mp) l.length (seen.push left[k].born) l.length))[r]? = some (.mapIter (some mp) l.length (seen.push left[k].born) l.length) := by
        have := obj_lt hi
        simp [this]
      have h2 : (w.heap.setIfInBounds r (.mapIter (some mp) l.length (seen.push left[k].born) l.length))[mp]? = some (.map (entsK κ l 0).toArray l.length) := by
        rw [Array.getElem?_setIfInBounds, if_neg (fun e => hne e.symm)]
        exact h
      have h3 := find_born left[k] (entsK κ l 0) (born_nodup (κ := κ) l 0) (by simpa using hm1)
      have e1 : left[k].key = .int κ p.1 := by rw [he]; rfl
      have e2 : left[k].val = p.2 := by rw [he]; rfl
      simp [Instr.entry, getObj, Sem.run, h1, h2, h3, Result.andThen, e1, e2]
end
end MapG
end Go.Proofs.YtlldgfejcjnpkaaGreat
/- slices.Sort of at most twelve uint32: an insertion sort. -/
namespace Go.Proofs.YtlldgfejcjnpkaaGreat
open Go.RowKit
set_option maxHeartbeats 10000000
set_option maxRecDepth 100000

def u32c (l : List Int) : List Value := l.map (Value.int .u32)
theorem u32c_length (l : List Int) : (u32c l).length = l.length := by simp [u32c]
/-- Two neighbours change places. -/
def swapAt (xs : List Int) (j : Nat) : List Int := (xs.set j (xs.getD (j - 1) 0)).set (j - 1) (xs.getD j 0)
theorem swapAt_length (xs : List Int) (j : Nat) : (swapAt xs j).length = xs.length := by simp [swapAt]
theorem swapAt_getD (xs : List Int) (j k : Nat) (hj : 0 < j) (hl : j < xs.length) : (swapAt xs j).getD k 0 = if k = j - 1 then xs.getD j 0 else if k = j then xs.getD (j - 1) 0 else xs.getD k 0 := by
  unfold swapAt
  simp only [List.getD_eq_getElem?_getD, List.getElem?_set, List.length_set]
  by_cases h1 : k = j - 1
  · subst h1
    rw [if_pos rfl, if_pos rfl, if_pos (by omega)]
    rfl
  · rw [if_neg (fun e => h1 e.symm), if_neg h1]
    by_cases h2 : k = j
    · subst h2
      rw [if_pos rfl, if_pos rfl, if_pos (by omega)]
      rfl
    · rw [if_neg (fun e => h2 e.symm), if_neg h2]
theorem swapAt_perm (xs : List Int) (j : Nat) (hj : 0 < j) (hl : j < xs.length) : (swapAt xs j).Perm xs := by
  have h := Array.swap_perm (xs := xs.toArray) (i := j) (j := j - 1) (by simpa using hl) (by simp; omega)
  have e : (xs.toArray.swap j (j - 1) (by simpa using hl) (by simp; omega)).toList = swapAt xs j := by
    have h2 : j - 1 < xs.length := by omega
    simp [Array.swap, swapAt, hl, h2]
  have h3 := Array.perm_iff_toList_perm.1 h
  rw [e] at h3
  exact h3
/-- Sorted up to i, but for what stands in place j. -/
def SortedBut (ys : List Int) (i j : Nat) : Prop := ∀ p q, p < q → q ≤ i → q ≠ j → ys.getD p 0 ≤ ys.getD q 0
theorem SortedBut.swap {ys : List Int} {i j : Nat} (h : SortedBut ys i j) (hj : 0 < j) (hji : j ≤ i) (hi : i < ys.length) (hlt : ys.getD j 0 < ys.getD (j - 1) 0) : SortedBut (swapAt ys j) i (j - 1) := by
  intro p q hpq hqi hqj
  rw [swapAt_getD ys j p hj (by omega), swapAt_getD ys j q hj (by omega), if_neg hqj]
  by_cases h2 : q = j
  · subst h2
    rw [if_pos rfl]
    by_cases h3 : p = q - 1
    · rw [if_pos h3]; omega
    · rw [if_neg h3, if_neg (by omega)]
      exact h p (q - 1) (by omega) (by omega) (by omega)
  · rw [if_neg h2]
    by_cases h3 : p = j - 1
    · rw [if_pos h3]
      exact h j q (by omega) hqi h2
    · rw [if_neg h3]
      by_cases h4 : p = j
      · rw [if_pos h4]
        exact h (j - 1) q (by omega) hqi h2
      · rw [if_neg h4]
        exact h p q hpq hqi h2
theorem SortedBut.stop {ys : List Int} {i j : Nat} (h : SortedBut ys i j) (hs : j = 0 ∨ ys.getD (j - 1) 0 ≤ ys.getD j 0) : ∀ p q, p < q → q ≤ i → ys.getD p 0 ≤ ys.getD q 0 := by
  intro p q hpq hqi
  by_cases h2 : q = j
  · subst h2
    rcases hs with h0 | h0
    · omega
    · by_cases h3 : p = q - 1
      · subst h3; exact h0
      · have := h p (q - 1) (by omega) (by omega) (by omega)
        omega
  · exact h p q hpq hqi h2
/-- What Sort leaves. -/
def sortI (l : List Int) : List Int := l.mergeSort fun x y => decide (x ≤ y)
theorem sortI_length (l : List Int) : (sortI l).length = l.length := List.length_mergeSort _
theorem sortI_sorted (l : List Int) : (sortI l).Pairwise (· ≤ ·) :=
  (List.pairwise_mergeSort (le := fun x y : Int => decide (x ≤ y)) (fun a b c h1 h2 => by simp at *; omega) (fun a b => by simp; omega) l).imp (fun h => by simpa using h)
theorem perm_sorted : ∀ (a b : List Int), a.Perm b → a.Pairwise (· ≤ ·) → b.Pairwise (· ≤ ·) → a = b
  | [], b, hp, _, _ => by simpa using hp
  | x :: a, [], hp, _, _ => by simp at hp
  | x :: a, y :: b, hp, h1, h2 => by
    rw [List.pairwise_cons] at h1 h2
    have hxy : x = y := by
      have a1 : x ∈ y :: b := hp.subset List.mem_cons_self
      have a2 : y ∈ x :: a := hp.symm.subset List.mem_cons_self
      rcases List.mem_cons.1 a1 with e | e
      · exact e
      rcases List.mem_cons.1 a2 with e2 | e2
      · exact e2.symm
      have := h1.1 y e2
      have := h2.1 x e
      omega
    subst hxy
    rw [perm_sorted a b ((List.perm_cons x).1 hp) h1.2 h2.2]
theorem sortI_of {l ys : List Int} (hp : ys.Perm l) (hs : ys.Pairwise (· ≤ ·)) : ys = sortI l :=
  perm_sorted ys (sortI l) (hp.trans (List.mergeSort_perm l _).symm) hs (sortI_sorted l)
theorem pairwise_getD {ys : List Int} (h : ∀ p q, p < q → q < ys.length → ys.getD p 0 ≤ ys.getD q 0) : ys.Pairwise (· ≤ ·) := by
  rw [List.pairwise_iff_getElem]
  intro p q hp hq hpq
  have := h p q hpq hq
  simpa [List.getD_eq_getElem?_getD, hp, hq] using this
theorem sortI_perm (l : List Int) : (sortI l).Perm l := List.mergeSort_perm l _

theorem isNaN32_any (x : Int) (w : World) : Calls Tryz.prog 201 #[.int .u32 x] w fun e w' => e = .returned (.bool false) ∧ w' = w := by
  go_enter Tryz.func201, Tryz.ntmps201
  go_wp2_with fail
  go_ret
  exact ⟨rfl, rfl⟩
theorem cmpLess32_any (x y : Int) (w : World) : Calls Tryz.prog 168 #[.int .u32 x, .int .u32 y] w fun e w' => e = .returned (.bool (decide (x < y))) ∧ w' = w := by
  go_enter Tryz.func168, Tryz.ntmps168
  go_wp2_with fail
  refine (isNaN32_any x _).mono ?_
  rintro e w' ⟨rfl, rfl⟩
  go_wp2_with fail
  go_ret
  exact ⟨rfl, rfl⟩
theorem own_getD {w : World} {base g n c : Nat} {ys : List Int} (h : w.ownsRow base 34 1 (.slice (some ⟨g, 0, none⟩) n c) n (u32c ys)) (k : Nat) (hk : k < n) : w.cell? ⟨g, k, none⟩ = some (.int .u32 (ys.getD k 0)) ∧ w.frozen? ⟨g, k, none⟩ = false := by
  have hl : ys.length = n := by have := h.1; simpa [u32c] using this
  have h1 := h.cellAt k (by omega)
  refine ⟨?_, (own_at (k := k) h).1⟩
  rw [h1]
  have hkl : k < ys.length := by omega
  simp [u32c, List.getD_eq_getElem?_getD, hkl]
theorem own_swap {w : World} {base g n c : Nat} {ys : List Int} (h : w.ownsRow base 34 1 (.slice (some ⟨g, 0, none⟩) n c) n (u32c ys)) (j : Nat) :
    ((w.setCell ⟨g, j, none⟩ (.int .u32 (ys.getD (j - 1) 0))).setCell ⟨g, j - 1, none⟩ (.int .u32 (ys.getD j 0))).ownsRow base 34 1 (.slice (some ⟨g, 0, none⟩) n c) n (u32c (swapAt ys j)) := by
  have h2 := own_set1 (own_set1 h j (.int .u32 (ys.getD (j - 1) 0))) (j - 1) (.int .u32 (ys.getD j 0))
  have e : ((u32c ys).set j (.int .u32 (ys.getD (j - 1) 0))).set (j - 1) (.int .u32 (ys.getD j 0)) = u32c (swapAt ys j) := by simp [u32c, swapAt, List.map_set]
  rw [e] at h2
  exact h2
theorem insSort_any (g c base n : Nat) (xs : List Int) (w : World) (hl : xs.length = n) (hn : n ≤ 12) (hr : w.ownsRow base 34 1 (.slice (some ⟨g, 0, none⟩) n c) n (u32c xs)) :
    Calls Tryz.prog 162 #[.slice (some ⟨g, 0, none⟩) n c, .int .i64 0, .int .i64 n] w fun e w' => e = .returned (.tuple #[]) ∧ w'.ownsRow base 34 1 (.slice (some ⟨g, 0, none⟩) n c) n (u32c (sortI xs)) ∧ Keep (fun k => k = g) w w' ∧ w'.heap.size = w.heap.size := by
  have Hl := Lib.hid hl
  clear hl
  go_enter Tryz.func162, Tryz.ntmps162
  go_wp2_with fail
  go_loopg [6, 7] n (fun q v6 _v7 wr => ∃ (i : Nat) (ys : List Int), v6 = .int .i64 i ∧ i + q = n + 1 ∧ 1 ≤ i ∧ Hid (ys.Perm xs ∧ ∀ p q, p < q → q < i → q < n → ys.getD p 0 ≤ ys.getD q 0) ∧ wr.ownsRow base 34 1 (.slice (some ⟨g, 0, none⟩) n c) n (u32c ys) ∧ Keep (fun k => k = g) w wr ∧ wr.heap.size = w.heap.size)
  case atStart => exact ⟨1, xs, rfl, by omega, by omega, Lib.hid ⟨List.Perm.refl _, fun p q h1 h2 => by omega⟩, hr, Keep.refl _ _, rfl⟩
  case round =>
    obtain ⟨i, ys, rfl, hq, hi1, HP, hown, hk, hsz⟩ := hrel
    have Hsz := Lib.hid hsz
    clear hsz
    by_cases hlt : i < n
    · have Hq := Lib.hid hq
      clear hq hr
      go_wp2_with fail
      go_loopg [7] i (fun q v7 wl => ∃ (zs : List Int), v7 = .int .i64 q ∧ q ≤ i ∧ Hid (zs.Perm xs ∧ SortedBut zs i q) ∧ wl.ownsRow base 34 1 (.slice (some ⟨g, 0, none⟩) n c) n (u32c zs) ∧ Keep (fun k => k = g) w wl ∧ Hid (wl.heap.size = w.heap.size))
      case atStart => exact ⟨ys, rfl, Nat.le_refl _, Lib.hid ⟨HP.out.1, fun p q h1 h2 h3 => HP.out.2 p q h1 (by omega) (by omega)⟩, hown, hk, Hsz⟩
      case round =>
        clear hown hk Hsz
        obtain ⟨zs, rfl, hqi, HZ, hown, hk, Hsz⟩ := hrel
        obtain ⟨W0, rfl⟩ : ∃ W : World, W = wr := ⟨_, rfl⟩
        rcases Nat.eq_zero_or_pos gk with h0 | h0
        · have HI := Lib.hid (show SortedBut zs i 0 by rw [← h0]; exact HZ.out.2)
          have HP2 := Lib.hid HZ.out.1
          clear HZ HP
          subst h0
          go_wp2_with fail
          go_quiet (fail)
          go_wp2_with fail
          go_roundg (n - i)
          case measure => have := Hq.out; omega
          case rel =>
            have := Hq.out
            exact ⟨i + 1, zs, by go_num, by omega, by omega, Lib.hid ⟨HP2.out, fun p q h1 h2 _ => HI.out.stop (.inl rfl) p q h1 (by omega)⟩, own_below hown (belowN (Below.refl W0.heap.size W0) _), hk.drewN _, Hsz.out⟩
        · obtain ⟨j, hj⟩ : ∃ j, gk = j + 1 := ⟨gk - 1, by omega⟩
          obtain ⟨p1, f1⟩ := own_getD hown gk (by omega)
          obtain ⟨p0, f0⟩ := own_getD hown j (by omega)
          have hlt1 : ((gk : Nat) : Int) < (n : Int) := by omega
          have hlt0 : ((j : Nat) : Int) < (n : Int) := by omega
          have hsub : (gk : Int) - 1 = (j : Int) := by omega
          have hgt : (0 : Int) < (gk : Int) := by omega
          have Hj := Lib.hid hj
          have hsw := own_swap hown gk
          rw [show gk - 1 = j by omega] at hsw
          generalize hx : zs.getD gk 0 = x at *
          generalize hy : zs.getD j 0 = y at *
          have Hx := Lib.hid hx
          have Hy := Lib.hid hy
          clear hj hx hy
          go_wp2_with fail
          go_quiet ((go_at_call 168; exact Calls.quiet_of_same (cmpLess32_any _ _ _)))
          have hbD := fun k => belowN (Below.refl W0.heap.size W0) k
          by_cases hxy : x < y
          · have HN : Hid ((swapAt zs gk).Perm xs ∧ SortedBut (swapAt zs gk) i j) := by
              have h1 := HZ.out
              have h2 := Hj.out
              have hzl : zs.length = n := (h1.1.length_eq).trans Hl.out
              refine Lib.hid ⟨(swapAt_perm zs gk h0 (by omega)).trans h1.1, ?_⟩
              have h3 := h1.2.swap h0 hqi (by omega) (by rw [Hx.out, show gk - 1 = j by omega, Hy.out]; exact hxy)
              rw [show gk - 1 = j by omega] at h3
              exact h3
            have Hsw := Lib.hid hsw
            clear hsw HZ
            go_wp2_with fail
            go_region
            go_wp2_with fail
            go_roundg j
            case measure => have := Hj.out; omega
            case rel =>
              have := Hj.out
              exact ⟨swapAt zs gk, rfl, by omega, HN, Hsw.out, ((hk.drewN _).setCell (fun _ => rfl) _).setCell (fun _ => rfl) _, Lib.hid (by simpa using Hsz.out)⟩
          · have HI := Lib.hid (show ∀ p q, p < q → q ≤ i → zs.getD p 0 ≤ zs.getD q 0 from HZ.out.2.stop (.inr (by have := Hj.out; rw [Hx.out, show gk - 1 = j by omega, Hy.out]; omega)))
            have HP2 := Lib.hid HZ.out.1
            clear hsw HZ HP
            go_wp2_with fail
            go_roundg (n - i)
            case measure => have := Hq.out; omega
            case rel =>
              have := Hq.out
              exact ⟨i + 1, zs, by go_num, by omega, by omega, Lib.hid ⟨HP2.out, fun p q h1 h2 _ => HI.out p q h1 (by omega)⟩, own_below hown (hbD _), hk.drewN _, Hsz.out⟩
    · have hys : ys = sortI xs := by
        have h1 := HP.out
        have h2 : ys.length = n := h1.1.length_eq.trans Hl.out
        exact sortI_of h1.1 (pairwise_getD fun p q h3 h4 => h1.2 p q h3 (by omega) (by omega))
      subst hys
      clear hr HP
      go_wp2_with fail
      go_end0
      exact ⟨rfl, hown, hk, Hsz.out⟩
theorem sort32_any (v : Value) (base : Nat) (xs : List Int) (w : World) (hn : xs.length ≤ 12) (hr : w.ownsRow base 34 1 v xs.length (u32c xs)) :
    Calls Tryz.prog 75 #[v] w fun e w' => e = .returned (.tuple #[]) ∧ w'.ownsRow base 34 1 v xs.length (u32c (sortI xs)) ∧ Keep (fun k => v.ownBlock = some k) w w' ∧ w'.heap.size = w.heap.size := by
  obtain ⟨A, c, rfl⟩ := own_slice hr
  obtain ⟨n, Hn⟩ : ∃ n, Hid (xs.length = n) := ⟨_, Lib.hid rfl⟩
  rw [Hn.out] at hr hn ⊢
  have hlen := Tryz.bits_Len (n : Int) w (by omega) (by omega)
  have hpd : Calls Tryz.prog 126 #[.slice A n c, .int .i64 0, .int .i64 n, .int .i64 (Lib.bitLen n)] w fun e w' => e = .returned (.tuple #[]) ∧ w'.ownsRow base 34 1 (.slice A n c) n (u32c (sortI xs)) ∧ Keep (fun k => (Value.slice A n c).ownBlock = some k) w w' ∧ w'.heap.size = w.heap.size := by
    cases A with
    | none =>
      have hn0 : n = 0 ∧ c = 0 := by
        rcases hr.2 with ⟨h, h0⟩ | ⟨g, cap, cur, h, _⟩
        · injection h with _ _ h3
          exact ⟨h0, h3⟩
        · cases h
      obtain ⟨rfl, rfl⟩ := hn0
      have hx : sortI xs = xs := by rw [List.eq_nil_of_length_eq_zero Hn.out]; simp [sortI]
      rw [hx]
      have hins : Calls Tryz.prog 162 #[.slice none 0 0, .int .i64 0, .int .i64 0] w fun e w' => e = .returned (.tuple #[]) ∧ w' = w := by
        go_enter Tryz.func162, Tryz.ntmps162
        go_wp2_with fail
        refine wp_loop_rounds 1 ?_
        rw [rounds_succ]
        go_wp2_with fail
        go_end0
        exact ⟨rfl, rfl⟩
      go_enter Tryz.func126, Tryz.ntmps126
      go_wp2_with fail
      refine wp_loop_rounds 1 ?_
      rw [rounds_succ]
      go_wp2_with fail
      refine hins.mono ?_
      rintro e w' ⟨rfl, rfl⟩
      go_wp2_with fail
      exact bodyPost_ret (v := .tuple #[]) (by simp [results, Tryz.results126, go_sem]) rfl ⟨rfl, hr, Keep.refl _ _, rfl⟩
    | some ad =>
      obtain ⟨g, rfl⟩ : ∃ g, ad = ⟨g, 0, none⟩ := by
        rcases hr.2 with ⟨h, h0⟩ | ⟨g, cap, cur, h, _⟩
        · cases h
        · injection h with h1 _ _
          injection h1 with h1
          exact ⟨g, h1⟩
      have hins := insSort_any g c base n xs w Hn.out hn hr
      have hle : (n : Int) ≤ 12 := by omega
      go_enter Tryz.func126, Tryz.ntmps126
      go_wp2_with fail
      refine wp_loop_rounds 1 ?_
      rw [rounds_succ]
      go_wp2_with fail
      refine hins.mono ?_
      rintro e w' ⟨rfl, h1, h2, h3⟩
      go_wp2_with fail
      exact bodyPost_ret (v := .tuple #[]) (by simp [results, Tryz.results126, go_sem]) rfl ⟨rfl, h1, h2.mono (fun x _ hx => by rw [hx]; rfl), h3⟩
  rw [show ((n : Int)).toNat = n by omega] at hlen
  generalize Lib.bitLen n = bl at *
  have hcv : IntKind.u64.wrap (n : Int) = n := by rw [IntKind.wrap_u64]; omega
  go_enter Tryz.func75, Tryz.ntmps75
  go_wp2_with fail
  refine hlen.mono ?_
  rintro e w' ⟨rfl, rfl⟩
  go_wp2_with fail
  refine hpd.mono ?_
  rintro e w' ⟨rfl, h1, h2, h3⟩
  go_wp2_with fail
  go_end0
  exact ⟨rfl, h1, h2, h3⟩
end Go.Proofs.YtlldgfejcjnpkaaGreat
/- The program's mux in memory: its devices and their meters, told apart by a colour each. -/
namespace Go.Proofs.YtlldgfejcjnpkaaGreat
open Go.RowKit
set_option maxHeartbeats 4000000
set_option maxRecDepth 100000

/-- A port: the device at a over the memory at ma, its meter at s. -/
structure PRow where
  a : Nat
  ma : Nat
  s : Nat
  m : DevM
  seen : Int
def PRow.code (r : PRow) : Int := r.m.p.code
def PRow.port (r : PRow) : Int × Value := (r.code, .agg #[.pointer (some ⟨r.a, 0, none⟩), .pointer (some ⟨r.s, 0, none⟩)])
/-- Colours: 0 the mux's block, 1 its map, 2 the meter of what is lost, 2 i + 10 the i-th port's meter, 2 i + 11 its device. -/
structure MuxAt (B : Nat) (w : World) (x : Nat) (R : List PRow) (lost : Int) (κ : Nat → Option Nat) (mp bl : Nat) : Prop where
  blk : Blk w x 157 #[.map (some mp), .pointer (some ⟨bl, 0, none⟩)]
  map : MapG.MapIs .u32 w mp (R.map PRow.port)
  lostB : Blk w bl 241 (meterCells lost none)
  seen : ∀ i r, R[i]? = some r → Blk w r.s 241 (meterCells r.seen none) ∧ Of κ (2 * i + 10) r.s
  dev : ∀ i r, R[i]? = some r → DevIs B w r.a r.ma r.m (Of κ (2 * i + 11)) ∧ r.m.Inv
  kx : Of κ 0 x
  km : Of κ 1 mp
  kl : Of κ 2 bl
  lo : ∀ y, κ y ≠ none → B ≤ y ∧ y < w.heap.size
  codes : (R.map PRow.code).Nodup
/-- A mux whose blocks lie in F, from B on. -/
def MuxIs (B : Nat) (w : World) (x : Nat) (R : List PRow) (lost : Int) (F : Nat → Prop) : Prop := (∃ κ mp bl, MuxAt B w x R lost κ mp bl ∧ ∀ y, κ y ≠ none → F y) ∧ ∀ y, F y → B ≤ y ∧ y < w.heap.size
structure MuxTo (B : Nat) (w : World) (x : Nat) (R : List PRow) (lost : Int) (F : Nat → Prop) (w' : World) : Prop where
  is_ : MuxIs B w' x R lost (grow F w w')
  keep : Keep F w w'
theorem MapG.MapIs.keep {κ : IntKind} {w w' : World} {mp : Nat} {l : List (Int × Value)} {S : Nat → Prop} (h : MapG.MapIs κ w mp l) (hk : Keep S w w') (hS : ¬ S mp) : MapG.MapIs κ w' mp l := (hk.block mp h.lt hS).trans h
section
variable {B : Nat} {w w' : World} {x mp bl i : Nat} {R R' : List PRow} {lost : Int} {κ : Nat → Option Nat} {F S : Nat → Prop} {r : PRow}
theorem MuxAt.Ble (h : MuxAt B w x R lost κ mp bl) : B ≤ w.heap.size := by have := h.lo x (by rw [show κ x = some 0 from h.kx]; simp); omega
theorem MuxAt.keepS (h : MuxAt B w x R lost κ mp bl) (hk : Keep S w w') (hS : ∀ y, κ y ≠ none → ¬ S y) : MuxAt B w' x R lost κ mp bl :=
  have hS' : ∀ t y, Of κ t y → ¬ S y := fun t y hy => hS y (by rw [show κ y = some t from hy]; simp)
  { blk := h.blk.keep hk (hS' _ _ h.kx)
    map := h.map.keep hk (hS' _ _ h.km)
    lostB := h.lostB.keep hk (hS' _ _ h.kl)
    seen := fun i r hr => ⟨(h.seen i r hr).1.keep hk (hS' _ _ (h.seen i r hr).2), (h.seen i r hr).2⟩
    dev := fun i r hr => ⟨(h.dev i r hr).1.keepS hk (hS' _), (h.dev i r hr).2⟩
    kx := h.kx
    km := h.km
    kl := h.kl
    lo := fun y hy => by have := h.lo y hy; have := hk.size; omega
    codes := h.codes }
theorem MuxAt.below (h : MuxAt B w x R lost κ mp bl) (hb : Below w.heap.size w w') : MuxAt B w' x R lost κ mp bl := h.keepS (S := fun _ => False) (Keep.of_below hb) (fun _ _ h => h)
theorem MuxIs.lo (h : MuxIs B w x R lost F) : ∀ y, F y → B ≤ y ∧ y < w.heap.size := h.2
theorem MuxIs.Ble (h : MuxIs B w x R lost F) : B ≤ w.heap.size := by obtain ⟨⟨_, _, _, hM, _⟩, _⟩ := h; exact hM.Ble
theorem MuxIs.keepS (h : MuxIs B w x R lost F) (hk : Keep S w w') (hS : ∀ y, F y → ¬ S y) : MuxIs B w' x R lost F := by
  obtain ⟨⟨κ, mp, bl, hM, hF⟩, hlo⟩ := h
  exact ⟨⟨κ, mp, bl, hM.keepS hk (fun y hy => hS y (hF y hy)), hF⟩, fun y hy => by have := hlo y hy; have := hk.size; omega⟩
theorem MuxIs.below (h : MuxIs B w x R lost F) (hb : Below w.heap.size w w') : MuxIs B w' x R lost F := h.keepS (S := fun _ => False) (Keep.of_below hb) (fun _ _ h => h)
/-- Behind a call that touches colour t alone: what is of another colour, in the new colours. -/
theorem MuxAt.rest (h : MuxAt B w x R lost κ mp bl) (t : Nat) (hk : Keep (Of κ t) w w') :
    (t ≠ 0 → Blk w' x 157 #[.map (some mp), .pointer (some ⟨bl, 0, none⟩)]) ∧ (t ≠ 1 → MapG.MapIs .u32 w' mp (R.map PRow.port)) ∧ (t ≠ 2 → Blk w' bl 241 (meterCells lost none)) ∧
    (∀ i r, R[i]? = some r → (t ≠ 2 * i + 10 → Blk w' r.s 241 (meterCells r.seen none)) ∧ Of (paint κ t w w') (2 * i + 10) r.s) ∧
    (∀ i r, R[i]? = some r → t ≠ 2 * i + 11 → DevIs B w' r.a r.ma r.m (Of (paint κ t w w') (2 * i + 11))) ∧
    Of (paint κ t w w') 0 x ∧ Of (paint κ t w w') 1 mp ∧ Of (paint κ t w w') 2 bl ∧ ∀ y, paint κ t w w' y ≠ none → B ≤ y ∧ y < w'.heap.size := by
  have hlo := paint_lo (t := t) h.lo h.Ble hk.size
  refine ⟨fun ht => h.blk.keep hk (h.kx.ne (Ne.symm ht)), fun ht => h.map.keep hk (h.km.ne (Ne.symm ht)), fun ht => h.lostB.keep hk (h.kl.ne (Ne.symm ht)), fun i r hr => ⟨fun ht => (h.seen i r hr).1.keep hk ((h.seen i r hr).2.ne (Ne.symm ht)), paint_old (h.seen i r hr).2 h.lo⟩, fun i r hr ht => ?_, paint_old h.kx h.lo, paint_old h.km h.lo, paint_old h.kl h.lo, hlo⟩
  have hd := (h.dev i r hr).1.keepS hk (fun y hy => hy.ne (Ne.symm ht))
  obtain ⟨⟨κ', c, d, v, g, val, hD, hF⟩, _⟩ := hd
  exact ⟨⟨κ', c, d, v, g, val, hD, fun y hy => paint_old (hF y hy) h.lo⟩, fun y hy => hlo y (by rw [show paint κ t w w' y = _ from hy]; simp)⟩
theorem set_get {α : Type} {l : List α} {i j : Nat} {u v : α} (h : (l.set i u)[j]? = some v) : (j = i ∧ v = u ∧ i < l.length) ∨ (j ≠ i ∧ l[j]? = some v) := by
  rw [List.getElem?_set] at h
  by_cases e : i = j
  · subst e
    rw [if_pos rfl] at h
    split at h
    · rename_i hl; exact .inl ⟨rfl, (Option.some.inj h).symm, hl⟩
    · cases h
  · rw [if_neg e] at h
    exact .inr ⟨fun e' => e e'.symm, h⟩
theorem map_set_same {α β : Type} (f : α → β) {l : List α} {i : Nat} {u v : α} (h : l[i]? = some v) (e : f u = f v) : (l.set i u).map f = l.map f := by
  rw [List.map_set, e]
  apply List.ext_getElem?
  intro k
  rw [List.getElem?_set]
  split
  · rename_i e'; subst e'
    obtain ⟨h1, h2⟩ := List.getElem?_eq_some_iff.1 h
    simp [h1, h2]
  · rfl
/-- Behind a call on the i-th device. -/
theorem MuxAt.onDev (h : MuxAt B w x R lost κ mp bl) (hr : R[i]? = some r) {m' : DevM} (t : DevTo B w r.a r.ma m' (Of κ (2 * i + 11)) w') (hi : m'.Inv) (hp : m'.p = r.m.p) :
    MuxAt B w' x (R.set i { r with m := m' }) lost (paint κ (2 * i + 11) w w') mp bl := by
  obtain ⟨h0, h1, h2, hs, hd, k0, k1, k2, lo⟩ := h.rest (2 * i + 11) t.keep
  have hc : PRow.code { r with m := m' } = r.code := by simp [PRow.code, hp]
  have hpt : PRow.port { r with m := m' } = r.port := by simp [PRow.port, hc]
  refine ⟨h0 (by omega), ?_, h2 (by omega), fun j q hq => ?_, fun j q hq => ?_, k0, k1, k2, lo, ?_⟩
  · rw [map_set_same _ hr hpt]; exact h1 (by omega)
  · rcases set_get hq with ⟨rfl, rfl, _⟩ | ⟨_, hq⟩
    · exact ⟨(hs _ r hr).1 (by omega), (hs _ r hr).2⟩
    · exact ⟨(hs j q hq).1 (by omega), (hs j q hq).2⟩
  · rcases set_get hq with ⟨rfl, rfl, _⟩ | ⟨hne, hq⟩
    · refine ⟨?_, hi⟩
      obtain ⟨⟨κ', c, d, v, g, val, hD, hF⟩, _⟩ := t.is_
      exact ⟨⟨κ', c, d, v, g, val, hD, paint_of h.lo hF⟩, fun y hy => lo y (by rw [show paint κ _ w w' y = _ from hy]; simp)⟩
    · exact ⟨hd j q hq (by omega), (h.dev j q hq).2⟩
  · rw [map_set_same _ hr hc]; exact h.codes
/-- Behind a frame more for the i-th port. -/
theorem MuxAt.onSeen (h : MuxAt B w x R lost κ mp bl) (hr : R[i]? = some r) (n : Int) : MuxAt B (w.setCell ⟨r.s, 0, none⟩ (.int .u64 n)) x (R.set i { r with seen := n }) lost κ mp bl := by
  have hb := (h.seen i r hr).1
  have hk : Keep (fun y => y = r.s) w (w.setCell ⟨r.s, 0, none⟩ (.int .u64 n)) := (Keep.refl (fun y => y = r.s) w).setCell (p := ⟨r.s, 0, none⟩) (fun _ => rfl) _
  have hS : ∀ t y, t ≠ 2 * i + 10 → Of κ t y → ¬ y = r.s := fun t y ht hy e => (hy.ne ht) (e ▸ (h.seen i r hr).2)
  refine ⟨h.blk.keep hk (hS 0 _ (by omega) h.kx), ?_, h.lostB.keep hk (hS 2 _ (by omega) h.kl), fun j q hq => ?_, fun j q hq => ?_, h.kx, h.km, h.kl, fun y hy => by have := h.lo y hy; simpa using this, ?_⟩
  · rw [map_set_same PRow.port (u := { r with seen := n }) hr rfl]; exact h.map.keep hk (hS 1 _ (by omega) h.km)
  · rcases set_get hq with ⟨rfl, rfl, _⟩ | ⟨hne, hq⟩
    · exact ⟨hb.set_ 0 _, (h.seen _ r hr).2⟩
    · exact ⟨(h.seen j q hq).1.keep hk (hS _ _ (by omega) (h.seen j q hq).2), (h.seen j q hq).2⟩
  · rcases set_get hq with ⟨rfl, rfl, _⟩ | ⟨hne, hq⟩
    · exact ⟨(h.dev _ r hr).1.keepS hk (fun y => hS _ y (by omega)), (h.dev _ r hr).2⟩
    · exact ⟨(h.dev j q hq).1.keepS hk (fun y => hS _ y (by omega)), (h.dev j q hq).2⟩
  · rw [map_set_same PRow.code (u := { r with seen := n }) hr rfl]; exact h.codes
/-- Behind a frame more that came for nobody. -/
theorem MuxAt.onLost (h : MuxAt B w x R lost κ mp bl) (n : Int) : MuxAt B (w.setCell ⟨bl, 0, none⟩ (.int .u64 n)) x R n κ mp bl := by
  have hk : Keep (fun y => y = bl) w (w.setCell ⟨bl, 0, none⟩ (.int .u64 n)) := (Keep.refl (fun y => y = bl) w).setCell (p := ⟨bl, 0, none⟩) (fun _ => rfl) _
  have hS : ∀ t y, t ≠ 2 → Of κ t y → ¬ y = bl := fun t y ht hy e => (hy.ne ht) (e ▸ h.kl)
  exact ⟨h.blk.keep hk (hS 0 _ (by omega) h.kx), h.map.keep hk (hS 1 _ (by omega) h.km), h.lostB.set_ 0 _, fun j q hq => ⟨(h.seen j q hq).1.keep hk (hS _ _ (by omega) (h.seen j q hq).2), (h.seen j q hq).2⟩, fun j q hq => ⟨(h.dev j q hq).1.keepS hk (fun y => hS _ y (by omega)), (h.dev j q hq).2⟩, h.kx, h.km, h.kl, fun y hy => by have := h.lo y hy; simpa using this, h.codes⟩
theorem MuxIs.of (h : MuxAt B w x R lost κ mp bl) (hF : ∀ y, κ y ≠ none → F y) (hlo : ∀ y, F y → B ≤ y ∧ y < w.heap.size) : MuxIs B w x R lost F := ⟨⟨κ, mp, bl, h, hF⟩, hlo⟩
/-- A call on one of its devices, from outside. -/
theorem MuxIs.onDev (h : MuxIs B w x R lost F) (hr : R[i]? = some r) : ∃ FD, DevIs B w r.a r.ma r.m FD ∧ r.m.Inv ∧ (∀ y, FD y → F y) ∧ ∀ w' m', DevTo B w r.a r.ma m' FD w' → m'.Inv → m'.p = r.m.p → MuxTo B w x (R.set i { r with m := m' }) lost F w' := by
  obtain ⟨⟨κ, mp, bl, hM, hF⟩, hlo⟩ := h
  refine ⟨_, (hM.dev i r hr).1, (hM.dev i r hr).2, fun y hy => hF y (by rw [show κ y = _ from hy]; simp), fun w' m' t hi hp => ⟨⟨⟨_, mp, bl, hM.onDev hr t hi hp, paint_sub hF⟩, fun y hy => ?_⟩, t.keep.mono (fun y _ hy => hF y (by rw [show κ y = _ from hy]; simp))⟩⟩
  have hs := t.keep.size
  have hB := hM.Ble
  rcases hy with hy | hy
  · have := hlo y hy; omega
  · omega
end
end Go.Proofs.YtlldgfejcjnpkaaGreat
