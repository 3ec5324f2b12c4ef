/- A map from an int kind to values that a call makes, only ever adds new keys to, looks up and ranges over. No program here. -/
import Derived.Test.YtlldgfejcjnpkaaGreatBase1
import Derived.Laws.IdiomRangeMap
set_option linter.unusedVariables false
namespace Go.Proofs.YtlldgfejcjnpkaaGreat
open Go.RowKit
namespace MapG
variable {κ : IntKind}

def ent (κ : IntKind) (i : Nat) (p : Int × Value) : MapEntry := ⟨.int κ p.1, p.2, i⟩
def entsK (κ : IntKind) (l : List (Int × Value)) (k : Nat) : List MapEntry := (l.zipIdx k).map fun x => ent κ x.2 x.1
def MapIs (κ : IntKind) (w : World) (mp : Nat) (l : List (Int × Value)) : Prop := w.heap[mp]? = some (.map (entsK κ l 0).toArray l.length)
def lk (l : List (Int × Value)) (c : Int) : Option Value := (l.find? fun p => p.1 == c).map (·.2)

theorem lk_nil (c : Int) : lk [] c = none := rfl
theorem lk_cons (p : Int × Value) (l : List (Int × Value)) (c : Int) : lk (p :: l) c = if p.1 = c then some p.2 else lk l c := by
  unfold lk
  by_cases h : p.1 = c <;> simp [h]
theorem lk_snoc (l : List (Int × Value)) (d : Int) (b : Value) (c : Int) : lk (l ++ [(d, b)]) c = (lk l c).or (if d = c then some b else none) := by
  induction l with
  | nil => simp [lk_cons, lk_nil]
  | cons p r ih =>
    rw [List.cons_append, lk_cons, lk_cons, ih]
    by_cases h : p.1 = c <;> simp [h]
theorem lk_none {l : List (Int × Value)} {c : Int} : lk l c = none ↔ c ∉ l.map Prod.fst := by
  induction l with
  | nil => simp [lk_nil]
  | cons p r ih =>
    rw [lk_cons]
    by_cases h : p.1 = c
    · simp [h]
    · simp only [h, if_false, ih, List.map_cons, List.mem_cons, not_or]
      exact ⟨fun x => ⟨fun e => h e.symm, x⟩, fun x => x.2⟩
theorem lk_mem {l : List (Int × Value)} {c : Int} {b : Value} (h : lk l c = some b) : (c, b) ∈ l := by
  induction l with
  | nil => simp [lk_nil] at h
  | cons p r ih =>
    rw [lk_cons] at h
    by_cases hp : p.1 = c
    · simp only [hp, if_true, Option.some.injEq] at h
      subst hp; subst h
      exact List.mem_cons_self
    · simp only [hp, if_false] at h
      exact List.mem_cons_of_mem _ (ih h)
theorem lk_of_mem {l : List (Int × Value)} {c : Int} {b : Value} (hn : (l.map Prod.fst).Nodup) (h : (c, b) ∈ l) : lk l c = some b := by
  induction l with
  | nil => cases h
  | cons p r ih =>
    rw [lk_cons]
    rw [List.map_cons, List.nodup_cons] at hn
    rcases List.mem_cons.1 h with rfl | hr
    · simp
    · have : p.1 ≠ c := fun e => hn.1 (e ▸ List.mem_map.2 ⟨(c, b), hr, rfl⟩)
      simp [this, ih hn.2 hr]

theorem findNow_ents (c : Int) : ∀ (l : List (Int × Value)) (k : Nat), ∃ i, Instr.findNow (.int κ) (.int κ c) (entsK κ l k) k = some ((lk l c).map fun b => (i, b))
  | [], k => ⟨0, rfl⟩
  | p :: l, k => by
    obtain ⟨i, h⟩ := findNow_ents c l (k + 1)
    by_cases hp : p.1 = c
    · refine ⟨k, ?_⟩
      subst hp
      simp [entsK, List.zipIdx_cons, ent, Instr.findNow, Instr.sameNow, lk_cons]
    · refine ⟨i, ?_⟩
      have hp' : (c == p.1) = false := by simp; exact fun e => hp e.symm
      have : Instr.findNow (.int κ) (.int κ c) (entsK κ (p :: l) k) k = Instr.findNow (.int κ) (.int κ c) (entsK κ l (k + 1)) (k + 1) := by
        simp [entsK, List.zipIdx_cons, ent, Instr.findNow, Instr.sameNow, hp']
      rw [this, h, lk_cons, if_neg hp]

section
variable {P : Program} {w : World} {mp : Nat} {l : List (Int × Value)} {mt kt et : TypeId} {s : Nat}
theorem run_findKey (hk : P.underlying kt = some (.int κ)) (c : Int) (w : World) : ∃ i, (Instr.findKey kt (.int κ c) (entsK κ l 0)).run P w = .ok ((lk l c).map fun b => (i, b)) w := by
  obtain ⟨i, h⟩ := findNow_ents (κ := κ) c l 0
  exact ⟨i, by simp [Instr.findKey, run_underlying hk, h, Result.andThen]⟩
theorem run_checkKey (hk : P.underlying kt = some (.int κ)) (e : Bool) (n : Nat) (v : Value) (w : World) : (Instr.checkKey e (n + 1) kt v).run P w = .ok () w := by
  simp [Instr.checkKey, run_underlying hk, Result.andThen]
theorem MapIs.run_lookup (h : MapIs κ w mp l) (hm : P.underlying mt = some (.map kt et)) (hk : P.underlying kt = some (.int κ)) {z : Value} (hz : (zeroValue et).run P w = .ok z w) (c : Int) :
    (Instr.lookup mt (.map (some mp)) (.int κ c) false).run P w = .ok ((lk l c).getD z) w := by
  obtain ⟨i, hf⟩ := run_findKey (l := l) hk c w
  have hc := fun e n => run_checkKey (P := P) hk e n (.int κ c) w
  unfold MapIs at h
  have h10 : (10000 : Nat) = 9999 + 1 := rfl
  cases hl : lk l c with
  | none => rw [hl] at hf; simp [Instr.lookup, run_underlying hm, getObj, Sem.run, h, h10, hc, hf, hz, Result.andThen]
  | some b => rw [hl] at hf; simp [Instr.lookup, run_underlying hm, getObj, Sem.run, h, h10, hc, hf, Result.andThen]
theorem MapIs.run_lookup2 (h : MapIs κ w mp l) (hm : P.underlying mt = some (.map kt et)) (hk : P.underlying kt = some (.int κ)) {z : Value} (hz : (zeroValue et).run P w = .ok z w) (c : Int) :
    (Instr.lookup mt (.map (some mp)) (.int κ c) true).run P w = .ok (.tuple #[(lk l c).getD z, .bool (lk l c).isSome]) w := by
  obtain ⟨i, hf⟩ := run_findKey (l := l) hk c w
  have hc := fun e n => run_checkKey (P := P) hk e n (.int κ c) w
  unfold MapIs at h
  have h10 : (10000 : Nat) = 9999 + 1 := rfl
  cases hl : lk l c with
  | none => rw [hl] at hf; simp [Instr.lookup, run_underlying hm, getObj, Sem.run, h, h10, hc, hf, hz, Result.andThen]
  | some b => rw [hl] at hf; simp [Instr.lookup, run_underlying hm, getObj, Sem.run, h, h10, hc, hf, Result.andThen]
theorem MapIs.run_len (h : MapIs κ w mp l) (hm : P.underlying mt = some (.map kt et)) (t : TypeId) : (Builtin.len_ #[mt] t #[.map (some mp)]).run P w = .ok (.int .i64 l.length) w := by
  unfold MapIs at h
  have hlen : (entsK κ l 0).length = l.length := by simp [entsK]
  have hg : goInt (l.length : Int) = .int .i64 (l.length : Int) := rfl
  simp [Builtin.len_, run_underlying hm, getObj, Sem.run, h, Result.andThen, hlen, hg]
theorem entsK_snoc (l : List (Int × Value)) (p : Int × Value) (k : Nat) : entsK κ (l ++ [p]) k = entsK κ l k ++ [ent κ (k + l.length) p] := by
  simp [entsK, List.zipIdx_append]
theorem MapIs.run_update (h : MapIs κ w mp l) (hm : P.underlying mt = some (.map kt et)) (hk : P.underlying kt = some (.int κ)) (c : Int) (b : Value) (hn : lk l c = none) :
    (Instr.mapUpdate mt (.map (some mp)) (.int κ c) b).run P w = .ok () { w with heap := w.heap.setIfInBounds mp (.map (entsK κ (l ++ [(c, b)]) 0).toArray (l.length + 1)) } := by
  obtain ⟨i, hf⟩ := run_findKey (l := l) hk c w
  have hc := fun e n => run_checkKey (P := P) hk e n (.int κ c) w
  unfold MapIs at h
  have h10 : (10000 : Nat) = 9999 + 1 := rfl
  rw [hn] at hf
  simp [Instr.mapUpdate, run_underlying hm, getObj, setObj, Sem.run, h, h10, hc, hf, Result.andThen, entsK_snoc, ent]
theorem MapIs.lt (h : MapIs κ w mp l) : mp < w.heap.size := obj_lt h
theorem MapIs.updated (h : MapIs κ w mp l) (c : Int) (b : Value) : MapIs κ { w with heap := w.heap.setIfInBounds mp (.map (entsK κ (l ++ [(c, b)]) 0).toArray (l.length + 1)) } mp (l ++ [(c, b)]) := by
  have := h.lt
  simp [MapIs, this]
theorem Blk.ne_map {g : Nat} {t : TypeId} {cs : Array Value} (hb : Blk w g t cs) (h : MapIs κ w mp l) : g ≠ mp := by
  rintro rfl
  unfold Blk at hb
  unfold MapIs at h
  rw [hb] at h
  cases h
theorem own_ne_map {base : Nat} {e : TypeId} {size n : Nat} {v : Value} {xs : List Value} (hr : w.ownsRow base e size v n xs) (h : MapIs κ w mp l) : ∀ g, v.ownBlock = some g → g ≠ mp := by
  rintro g hg rfl
  rcases hr.2 with ⟨rfl, _⟩ | ⟨g', cap, cur, rfl, _, hh, _⟩
  · simp [Value.ownBlock] at hg
  · simp only [Value.ownBlock, Option.some.injEq] at hg
    subst hg
    unfold MapIs at h
    rw [hh] at h
    cases h
theorem keep_setObj (w : World) (mp : Nat) (o : Obj) : Keep (fun k => k = mp) w { w with heap := w.heap.setIfInBounds mp o } :=
  ⟨rfl, rfl, rfl, by simp, fun k _ hn => by simp only [Array.getElem?_setIfInBounds]; rw [if_neg (fun e => hn e.symm)]⟩
end

/-- 'for k := range m' under way: the entries in the places 'seen' have been. -/
def IterAt (w : World) (r mp n : Nat) (seen : Array Nat) : Prop := w.heap[r]? = some (.mapIter (some mp) n seen n)

theorem born_ents (l : List (Int × Value)) : ∀ (k : Nat), ∀ e ∈ entsK κ l k, k ≤ e.born ∧ e.born < k + l.length ∧ ∃ p, l[e.born - k]? = some p ∧ e = ent κ e.born p := by
  induction l with
  | nil => intro k e he; simp [entsK] at he
  | cons p r ih =>
    intro k e he
    have : entsK κ (p :: r) k = ent κ k p :: entsK κ r (k + 1) := by simp [entsK, List.zipIdx_cons]
    rw [this] at he
    rcases List.mem_cons.1 he with rfl | h
    · exact ⟨Nat.le_refl _, by simp [ent], p, by simp [ent], rfl⟩
    · obtain ⟨h1, h2, q, h3, h4⟩ := ih (k + 1) e h
      refine ⟨by omega, by simp only [List.length_cons]; omega, q, ?_, h4⟩
      obtain ⟨m, hm⟩ : ∃ m, e.born - k = m + 1 := ⟨e.born - k - 1, by omega⟩
      rw [hm, List.getElem?_cons_succ, ← h3]
      congr 1
      omega
theorem mem_ents (l : List (Int × Value)) (i : Nat) (h : i < l.length) : ent κ i l[i] ∈ entsK κ l 0 := by
  unfold entsK
  exact List.mem_map.2 ⟨(l[i], i), List.mem_zipIdx_iff_getElem?.2 (by simp [h]), rfl⟩
theorem born_nodup (l : List (Int × Value)) (k : Nat) : ((entsK κ l k).map (·.born)).Nodup := by
  have : (entsK κ l k).map (·.born) = List.range' k l.length := by
    unfold entsK
    rw [List.map_map]
    have : ((fun x : MapEntry => x.born) ∘ fun x : (Int × Value) × Nat => ent κ x.2 x.1) = Prod.snd := by funext x; rfl
    rw [this, List.zipIdx_map_snd]
  rw [this]
  exact List.nodup_range'

section
variable {P : Program} {w : World} {mp r : Nat} {l : List (Int × Value)} {mt kt et : TypeId} {seen : Array Nat}
theorem MapIs.run_range (h : MapIs κ w mp l) (hm : P.underlying mt = some (.map kt et)) :
    (Instr.range mt (.map (some mp))).run P w = .ok (.pointer (some ⟨w.heap.size, 0, none⟩)) (w.alloc (.mapIter (some mp) l.length #[] l.length)) := by
  unfold MapIs at h
  simp [Instr.range, run_underlying hm, getObj, Sem.run, h, Result.andThen]
theorem MapIs.run_next (h : MapIs κ w mp l) (hi : IterAt w r mp l.length seen) (ty : TypeId) :
    ((∀ i, i < l.length → i ∈ seen.toList) ∧ (Instr.next (.pointer (some ⟨r, 0, none⟩)) false ty).run P w = .ok (.tuple #[.bool false]) w) ∨
    ∃ i p w', l[i]? = some p ∧ i ∉ seen.toList ∧ (Instr.next (.pointer (some ⟨r, 0, none⟩)) false ty).run P w = .ok (.tuple #[.bool true, .int κ p.1, p.2]) w' ∧
      IterAt w' r mp l.length (seen.push i) ∧ Keep (fun k => k = r) w w' ∧ w'.heap.size = w.heap.size ∧ MapIs κ w' mp l ∧
      (Instr.entry (.pointer (some ⟨r, 0, none⟩))).run P w' = .ok (.tuple #[.int κ p.1, p.2]) w' := by
  unfold MapIs at h
  unfold IterAt at hi
  have hne : mp ≠ r := fun e => by subst e; rw [h] at hi; cases hi
  have hb := born_ents (κ := κ) l 0
  have hall : (!seen.isEmpty && !(entsK κ l 0).toArray.isEmpty && (entsK κ l 0).toArray.all (fun x => decide (x.born ≥ l.length))) = false := by
    by_cases he : l = []
    · subst he; simp [entsK]
    · have h0 : 0 < l.length := by rcases l with _ | ⟨a, b⟩ <;> simp_all
      have hm := mem_ents (κ := κ) l 0 h0
      have : (entsK κ l 0).toArray.all (fun x => decide (x.born ≥ l.length)) = false := by
        rw [Bool.eq_false_iff]
        intro ha
        rw [List.all_toArray, List.all_eq_true] at ha
        have := ha _ hm
        simp [ent] at this
        exact he this
      rw [this, Bool.and_false]
  have hold : ((entsK κ l 0).toArray.filter fun e => !seen.contains e.born).filter (fun x => decide (x.born < l.length)) = (entsK κ l 0).toArray.filter fun e => !seen.contains e.born := by
    rw [Array.filter_eq_self]
    intro e he
    have := (Array.mem_filter.1 he).1
    have := (hb e (by simpa using this)).2.1
    simpa using this
  have hnew : ((entsK κ l 0).toArray.filter fun e => !seen.contains e.born).filter (fun x => decide (x.born ≥ l.length)) = #[] := by
    rw [Array.filter_eq_empty_iff]
    intro e he
    have := (Array.mem_filter.1 he).1
    have := (hb e (by simpa using this)).2.1
    simpa using this
  generalize hL : (entsK κ l 0).toArray.filter (fun e => !seen.contains e.born) = left at hold hnew
  have hstart : (Instr.next (.pointer (some ⟨r, 0, none⟩)) false ty).run P w = (do
      match ((if left.isEmpty then #[none] else #[]) ++ (left ++ #[]).map some)[← choose (.mapNext ((if left.isEmpty then #[none] else #[]) ++ (left ++ #[]).map some).size)]? with
      | some (some e) =>
        setObj r (.mapIter (some mp) l.length (seen.push e.born) l.length)
        pure (.tuple #[.bool true, e.key, e.val])
      | some none => pure (.tuple #[.bool false])
      | none => stuck "Next: no such candidate" : Sem Value).run P w := by
    simp only [Instr.next, getObj, Sem.run_bind, Sem.run, hi, h, hall, hold, hnew, hL, Result.andThen_ok, Bool.false_eq_true, if_false]
    rfl
  rw [hstart]
  clear hstart hall hold hnew
  by_cases h0 : left = #[]
  · refine .inl ⟨fun i hil => ?_, ?_⟩
    · rw [h0, Array.filter_eq_empty_iff] at hL
      have := hL (ent κ i l[i]) (by simpa using mem_ents (κ := κ) l i hil)
      simpa [ent] using this
    · subst h0
      simp [choose, Sem.run, Question.forced]
  · have hpos : 0 < left.size := by
      rcases Nat.eq_zero_or_pos left.size with hz | hz
      · exact absurd (Array.eq_empty_of_size_eq_zero hz) h0
      · exact hz
    have hemp : left.isEmpty = false := by
      rw [Bool.eq_false_iff]
      intro hx
      exact h0 (by simpa using hx)
    obtain ⟨k, n, hk, hch⟩ : ∃ k n, k < left.size ∧ ∀ (β : Type) (f : Nat → Sem β), ((choose (.mapNext left.size)) >>= f).run P w = (f k).run P (w.drewN n) := by
      by_cases hf : left.size ≤ 1
      · exact ⟨0, 0, hpos, fun β f => by simp [choose, Bind.bind, Sem.bind, Sem.run, Question.forced, hf, World.drewN]⟩
      · exact ⟨w.tape w.drawn (.mapNext left.size) % left.size, 1, Nat.mod_lt _ hpos, fun β f => by simp [choose, Bind.bind, Sem.bind, Sem.run, Question.forced, Question.cut, hf, World.drewN]⟩
    have hmem : left[k] ∈ (entsK κ l 0).toArray.filter (fun e => !seen.contains e.born) := by rw [hL]; exact Array.getElem_mem hk
    obtain ⟨hm1, hm2⟩ := Array.mem_filter.1 hmem
    obtain ⟨_, hbl, p, hp, he⟩ := hb left[k] (by simpa using hm1)
    refine .inr ⟨left[k].born, p, { w with heap := w.heap.setIfInBounds r (.mapIter (some mp) l.length (seen.push left[k].born) l.length), drawn := w.drawn + n }, by simpa using hp, by simpa using hm2, ?_, ?_, ?_, ?_, ?_, ?_⟩
    · simp only [hemp, Bool.false_eq_true, if_false, Array.append_empty, Array.empty_append, Array.size_map]
      rw [hch]
      have hg : (left.map some)[k]? = some (some left[k]) := by simp [hk]
      rw [hg]
      have e1 : left[k].key = .int κ p.1 := by rw [he]; rfl
      have e2 : left[k].val = p.2 := by rw [he]; rfl
      simp [setObj, Sem.run, hi, Result.andThen, e1, e2, World.drewN]
    · have := obj_lt hi
      simp [IterAt, this]
    · exact ⟨rfl, rfl, rfl, by simp, fun k' _ hn => by simp only [Array.getElem?_setIfInBounds]; rw [if_neg (fun e => hn e.symm)]⟩
    · simp
    · simp only [MapIs, Array.getElem?_setIfInBounds]
      rw [if_neg (fun e => hne e.symm)]
      exact h
    · have h1 : (w.heap.setIfInBounds r (.mapIter (some mp) l.length (seen.push left[k].born) l.length))[r]? = some (.mapIter (some mp) l.length (seen.push left[k].born) l.length) := by
        have := obj_lt hi
        simp [this]
      have h2 : (w.heap.setIfInBounds r (.mapIter (some mp) l.length (seen.push left[k].born) l.length))[mp]? = some (.map (entsK κ l 0).toArray l.length) := by
        rw [Array.getElem?_setIfInBounds, if_neg (fun e => hne e.symm)]
        exact h
      have h3 := find_born left[k] (entsK κ l 0) (born_nodup (κ := κ) l 0) (by simpa using hm1)
      have e1 : left[k].key = .int κ p.1 := by rw [he]; rfl
      have e2 : left[k].val = p.2 := by rw [he]; rfl
      simp [Instr.entry, getObj, Sem.run, h1, h2, h3, Result.andThen, e1, e2]
end
end MapG
end Go.Proofs.YtlldgfejcjnpkaaGreat
