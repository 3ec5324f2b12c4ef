/- The base of the laws, part 4: contracts and plain lemmas, no statement. -/
import Derived.Test.YtlldgfejcjnpkaaGreatBase1
import Derived.Laws.IdiomRangeMap
import Derived.StillTailTactics
import Derived.Deep.RegionLaw
import Derived.Deep.RegionLawGrows
import Derived.Deep.RegionHeld3
set_option linter.unusedVariables false
/- A map from int kinds to pointers that a call makes, only ever adds new keys to, looks up and ranges over. No program here. -/
namespace Go.Proofs.YtlldgfejcjnpkaaGreat
open Go.RowKit

def ent (i : Nat) (p : Int × Nat) : MapEntry := ⟨.int .i64 p.1, .pointer (some ⟨p.2, 0, none⟩), i⟩
def entsK (l : List (Int × Nat)) (k : Nat) : List MapEntry := (l.zipIdx k).map fun x => ent x.2 x.1
def MapIs (w : World) (mp : Nat) (l : List (Int × Nat)) : Prop := w.heap[mp]? = some (.map (entsK l 0).toArray l.length)
def lk (l : List (Int × Nat)) (c : Int) : Option Nat := (l.find? fun p => p.1 == c).map (·.2)
def lkv (l : List (Int × Nat)) (c : Int) : Option Addr := (lk l c).map fun b => ⟨b, 0, none⟩

theorem lk_nil (c : Int) : lk [] c = none := rfl
theorem lk_cons (p : Int × Nat) (l : List (Int × Nat)) (c : Int) : lk (p :: l) c = if p.1 = c then some p.2 else lk l c := by
  unfold lk
  by_cases h : p.1 = c <;> simp [h]
theorem lk_snoc (l : List (Int × Nat)) (d : Int) (b : Nat) (c : Int) : lk (l ++ [(d, b)]) c = (lk l c).or (if d = c then some b else none) := by
  induction l with
  | nil => simp [lk_cons, lk_nil]
  | cons p r ih =>
    rw [List.cons_append, lk_cons, lk_cons, ih]
    by_cases h : p.1 = c <;> simp [h]
theorem lk_none {l : List (Int × Nat)} {c : Int} : lk l c = none ↔ c ∉ l.map Prod.fst := by
  induction l with
  | nil => simp [lk_nil]
  | cons p r ih =>
    rw [lk_cons]
    by_cases h : p.1 = c
    · simp [h]
    · simp only [h, if_false, ih, List.map_cons, List.mem_cons, not_or]
      exact ⟨fun x => ⟨fun e => h e.symm, x⟩, fun x => x.2⟩
theorem lk_mem {l : List (Int × Nat)} {c : Int} {b : Nat} (h : lk l c = some b) : (c, b) ∈ l := by
  induction l with
  | nil => simp [lk_nil] at h
  | cons p r ih =>
    rw [lk_cons] at h
    by_cases hp : p.1 = c
    · simp only [hp, if_true, Option.some.injEq] at h
      subst hp; subst h
      exact List.mem_cons_self
    · simp only [hp, if_false] at h
      exact List.mem_cons_of_mem _ (ih h)
theorem lk_of_mem {l : List (Int × Nat)} {c : Int} {b : Nat} (hn : (l.map Prod.fst).Nodup) (h : (c, b) ∈ l) : lk l c = some b := by
  induction l with
  | nil => cases h
  | cons p r ih =>
    rw [lk_cons]
    rw [List.map_cons, List.nodup_cons] at hn
    rcases List.mem_cons.1 h with rfl | hr
    · simp
    · have : p.1 ≠ c := fun e => hn.1 (e ▸ List.mem_map.2 ⟨(c, b), hr, rfl⟩)
      simp [this, ih hn.2 hr]

theorem findNow_ents (c : Int) : ∀ (l : List (Int × Nat)) (k : Nat), ∃ i, Instr.findNow (.int .i64) (.int .i64 c) (entsK l k) k = some ((lk l c).map fun b => (i, Value.pointer (some ⟨b, 0, none⟩)))
  | [], k => ⟨0, rfl⟩
  | p :: l, k => by
    obtain ⟨i, h⟩ := findNow_ents c l (k + 1)
    by_cases hp : p.1 = c
    · refine ⟨k, ?_⟩
      subst hp
      simp [entsK, List.zipIdx_cons, ent, Instr.findNow, Instr.sameNow, lk_cons]
    · refine ⟨i, ?_⟩
      have hp' : (c == p.1) = false := by simp; exact fun e => hp e.symm
      have : Instr.findNow (.int .i64) (.int .i64 c) (entsK (p :: l) k) k = Instr.findNow (.int .i64) (.int .i64 c) (entsK l (k + 1)) (k + 1) := by
        simp [entsK, List.zipIdx_cons, ent, Instr.findNow, Instr.sameNow, hp']
      rw [this, h, lk_cons, if_neg hp]

section
variable {P : Program} {w : World} {mp : Nat} {l : List (Int × Nat)} {mt kt et : TypeId} {s : Nat}
theorem run_findKey (hk : P.underlying kt = some (.int .i64)) (c : Int) (w : World) : ∃ i, (Instr.findKey kt (.int .i64 c) (entsK l 0)).run P w = .ok ((lk l c).map fun b => (i, Value.pointer (some ⟨b, 0, none⟩))) w := by
  obtain ⟨i, h⟩ := findNow_ents c l 0
  exact ⟨i, by simp [Instr.findKey, run_underlying hk, h, Result.andThen]⟩
theorem run_checkKey (hk : P.underlying kt = some (.int .i64)) (e : Bool) (n : Nat) (v : Value) (w : World) : (Instr.checkKey e (n + 1) kt v).run P w = .ok () w := by
  simp [Instr.checkKey, run_underlying hk, Result.andThen]
theorem MapIs.run_lookup (h : MapIs w mp l) (hm : P.underlying mt = some (.map kt et)) (hk : P.underlying kt = some (.int .i64)) (hz : (zeroValue et).run P w = .ok (.pointer none) w) (c : Int) :
    (Instr.lookup mt (.map (some mp)) (.int .i64 c) false).run P w = .ok (.pointer (lkv l c)) w := by
  obtain ⟨i, hf⟩ := run_findKey (l := l) hk c w
  have hc := fun e n => run_checkKey (P := P) hk e n (.int .i64 c) w
  unfold MapIs at h
  unfold lkv
  have h10 : (10000 : Nat) = 9999 + 1 := rfl
  cases hl : lk l c with
  | none => rw [hl] at hf; simp [Instr.lookup, run_underlying hm, getObj, Sem.run, h, h10, hc, hf, hz, Result.andThen]
  | some b => rw [hl] at hf; simp [Instr.lookup, run_underlying hm, getObj, Sem.run, h, h10, hc, hf, Result.andThen]
theorem entsK_snoc (l : List (Int × Nat)) (p : Int × Nat) (k : Nat) : entsK (l ++ [p]) k = entsK l k ++ [ent (k + l.length) p] := by
  simp [entsK, List.zipIdx_append]
theorem MapIs.run_update (h : MapIs w mp l) (hm : P.underlying mt = some (.map kt et)) (hk : P.underlying kt = some (.int .i64)) (c : Int) (b : Nat) (hn : lk l c = none) :
    (Instr.mapUpdate mt (.map (some mp)) (.int .i64 c) (.pointer (some ⟨b, 0, none⟩))).run P w = .ok () { w with heap := w.heap.setIfInBounds mp (.map (entsK (l ++ [(c, b)]) 0).toArray (l.length + 1)) } := by
  obtain ⟨i, hf⟩ := run_findKey (l := l) hk c w
  have hc := fun e n => run_checkKey (P := P) hk e n (.int .i64 c) w
  unfold MapIs at h
  have h10 : (10000 : Nat) = 9999 + 1 := rfl
  rw [hn] at hf
  simp [Instr.mapUpdate, run_underlying hm, getObj, setObj, Sem.run, h, h10, hc, hf, Result.andThen, entsK_snoc, ent]
theorem MapIs.lt (h : MapIs w mp l) : mp < w.heap.size := obj_lt h
theorem MapIs.updated (h : MapIs w mp l) (c : Int) (b : Nat) : MapIs { w with heap := w.heap.setIfInBounds mp (.map (entsK (l ++ [(c, b)]) 0).toArray (l.length + 1)) } mp (l ++ [(c, b)]) := by
  have := h.lt
  simp [MapIs, this]
theorem Blk.ne_map {g : Nat} {t : TypeId} {cs : Array Value} (hb : Blk w g t cs) (h : MapIs w mp l) : g ≠ mp := by
  rintro rfl
  unfold Blk at hb
  unfold MapIs at h
  rw [hb] at h
  cases h
theorem own_ne_map {base : Nat} {e : TypeId} {size n : Nat} {v : Value} {xs : List Value} (hr : w.ownsRow base e size v n xs) (h : MapIs w mp l) : ∀ g, v.ownBlock = some g → g ≠ mp := by
  rintro g hg rfl
  rcases hr.2 with ⟨rfl, _⟩ | ⟨g', cap, cur, rfl, _, hh, _⟩
  · simp [Value.ownBlock] at hg
  · simp only [Value.ownBlock, Option.some.injEq] at hg
    subst hg
    unfold MapIs at h
    rw [hh] at h
    cases h
theorem keep_setObj (w : World) (mp : Nat) (o : Obj) : Keep (fun k => k = mp) w { w with heap := w.heap.setIfInBounds mp o } :=
  ⟨rfl, rfl, rfl, by simp, fun k _ hn => by simp only [Array.getElem?_setIfInBounds]; rw [if_neg (fun e => hn e.symm)]⟩
end

/-- 'for k := range m' under way: the entries in the places 'seen' have been. -/
def IterAt (w : World) (r mp n : Nat) (seen : Array Nat) : Prop := w.heap[r]? = some (.mapIter (some mp) n seen n)

theorem born_ents (l : List (Int × Nat)) : ∀ (k : Nat), ∀ e ∈ entsK l k, k ≤ e.born ∧ e.born < k + l.length ∧ ∃ p, l[e.born - k]? = some p ∧ e = ent e.born p := by
  induction l with
  | nil => intro k e he; simp [entsK] at he
  | cons p r ih =>
    intro k e he
    have : entsK (p :: r) k = ent k p :: entsK r (k + 1) := by simp [entsK, List.zipIdx_cons]
    rw [this] at he
    rcases List.mem_cons.1 he with rfl | h
    · exact ⟨Nat.le_refl _, by simp [ent], p, by simp [ent], rfl⟩
    · obtain ⟨h1, h2, q, h3, h4⟩ := ih (k + 1) e h
      refine ⟨by omega, by simp only [List.length_cons]; omega, q, ?_, h4⟩
      obtain ⟨m, hm⟩ : ∃ m, e.born - k = m + 1 := ⟨e.born - k - 1, by omega⟩
      rw [hm, List.getElem?_cons_succ, ← h3]
      congr 1
      omega
theorem mem_ents (l : List (Int × Nat)) (i : Nat) (h : i < l.length) : ent i l[i] ∈ entsK l 0 := by
  unfold entsK
  exact List.mem_map.2 ⟨(l[i], i), List.mem_zipIdx_iff_getElem?.2 (by simp [h]), rfl⟩
theorem born_nodup (l : List (Int × Nat)) (k : Nat) : ((entsK l k).map (·.born)).Nodup := by
  have : (entsK l k).map (·.born) = List.range' k l.length := by
    unfold entsK
    rw [List.map_map]
    have : ((fun x : MapEntry => x.born) ∘ fun x : (Int × Nat) × Nat => ent x.2 x.1) = Prod.snd := by funext x; rfl
    rw [this, List.zipIdx_map_snd]
  rw [this]
  exact List.nodup_range'

section
variable {P : Program} {w : World} {mp r : Nat} {l : List (Int × Nat)} {mt kt et : TypeId} {seen : Array Nat}
theorem MapIs.run_range (h : MapIs w mp l) (hm : P.underlying mt = some (.map kt et)) :
    (Instr.range mt (.map (some mp))).run P w = .ok (.pointer (some ⟨w.heap.size, 0, none⟩)) (w.alloc (.mapIter (some mp) l.length #[] l.length)) := by
  unfold MapIs at h
  simp [Instr.range, run_underlying hm, getObj, Sem.run, h, Result.andThen]
theorem MapIs.run_next (h : MapIs w mp l) (hi : IterAt w r mp l.length seen) (ty : TypeId) :
    ((∀ i, i < l.length → i ∈ seen.toList) ∧ (Instr.next (.pointer (some ⟨r, 0, none⟩)) false ty).run P w = .ok (.tuple #[.bool false]) w) ∨
    ∃ i p w', l[i]? = some p ∧ i ∉ seen.toList ∧ (Instr.next (.pointer (some ⟨r, 0, none⟩)) false ty).run P w = .ok (.tuple #[.bool true, .int .i64 p.1, .pointer (some ⟨p.2, 0, none⟩)]) w' ∧
      IterAt w' r mp l.length (seen.push i) ∧ Keep (fun k => k = r) w w' ∧ w'.heap.size = w.heap.size ∧ MapIs w' mp l ∧
      (Instr.entry (.pointer (some ⟨r, 0, none⟩))).run P w' = .ok (.tuple #[.int .i64 p.1, .pointer (some ⟨p.2, 0, none⟩)]) w' := by
  unfold MapIs at h
  unfold IterAt at hi
  have hne : mp ≠ r := fun e => by subst e; rw [h] at hi; cases hi
  have hb := born_ents l 0
  have hall : (!seen.isEmpty && !(entsK l 0).toArray.isEmpty && (entsK l 0).toArray.all (fun x => decide (x.born ≥ l.length))) = false := by
    by_cases he : l = []
    · subst he; simp [entsK]
    · have h0 : 0 < l.length := by rcases l with _ | ⟨a, b⟩ <;> simp_all
      have hm := mem_ents l 0 h0
      have : (entsK l 0).toArray.all (fun x => decide (x.born ≥ l.length)) = false := by
        rw [Bool.eq_false_iff]
        intro ha
        rw [List.all_toArray, List.all_eq_true] at ha
        have := ha _ hm
        simp [ent] at this
        exact he this
      rw [this, Bool.and_false]
  have hold : ((entsK l 0).toArray.filter fun e => !seen.contains e.born).filter (fun x => decide (x.born < l.length)) = (entsK l 0).toArray.filter fun e => !seen.contains e.born := by
    rw [Array.filter_eq_self]
    intro e he
    have := (Array.mem_filter.1 he).1
    have := (hb e (by simpa using this)).2.1
    simpa using this
  have hnew : ((entsK l 0).toArray.filter fun e => !seen.contains e.born).filter (fun x => decide (x.born ≥ l.length)) = #[] := by
    rw [Array.filter_eq_empty_iff]
    intro e he
    have := (Array.mem_filter.1 he).1
    have := (hb e (by simpa using this)).2.1
    simpa using this
  generalize hL : (entsK l 0).toArray.filter (fun e => !seen.contains e.born) = left at hold hnew
  have hstart : (Instr.next (.pointer (some ⟨r, 0, none⟩)) false ty).run P w = (do
      match ((if left.isEmpty then #[none] else #[]) ++ (left ++ #[]).map some)[← choose (.mapNext ((if left.isEmpty then #[none] else #[]) ++ (left ++ #[]).map some).size)]? with
      | some (some e) =>
        setObj r (.mapIter (some mp) l.length (seen.push e.born) l.length)
        pure (.tuple #[.bool true, e.key, e.val])
      | some none => pure (.tuple #[.bool false])
      | none => stuck "Next: no such candidate" : Sem Value).run P w := by
    simp only [Instr.next, getObj, Sem.run_bind, Sem.run, hi, h, hall, hold, hnew, hL, Result.andThen_ok, Bool.false_eq_true, if_false]
    rfl
  rw [hstart]
  clear hstart hall hold hnew
  by_cases h0 : left = #[]
  · refine .inl ⟨fun i hil => ?_, ?_⟩
    · rw [h0, Array.filter_eq_empty_iff] at hL
      have := hL (ent i l[i]) (by simpa using mem_ents l i hil)
      simpa [ent] using this
    · subst h0
      simp [choose, Sem.run, Question.forced]
  · have hpos : 0 < left.size := by
      rcases Nat.eq_zero_or_pos left.size with hz | hz
      · exact absurd (Array.eq_empty_of_size_eq_zero hz) h0
      · exact hz
    have hemp : left.isEmpty = false := by
      rw [Bool.eq_false_iff]
      intro hx
      exact h0 (by simpa using hx)
    obtain ⟨k, n, hk, hch⟩ : ∃ k n, k < left.size ∧ ∀ (β : Type) (f : Nat → Sem β), ((choose (.mapNext left.size)) >>= f).run P w = (f k).run P (w.drewN n) := by
      by_cases hf : left.size ≤ 1
      · exact ⟨0, 0, hpos, fun β f => by simp [choose, Bind.bind, Sem.bind, Sem.run, Question.forced, hf, World.drewN]⟩
      · exact ⟨w.tape w.drawn (.mapNext left.size) % left.size, 1, Nat.mod_lt _ hpos, fun β f => by simp [choose, Bind.bind, Sem.bind, Sem.run, Question.forced, Question.cut, hf, World.drewN]⟩
    have hmem : left[k] ∈ (entsK l 0).toArray.filter (fun e => !seen.contains e.born) := by rw [hL]; exact Array.getElem_mem hk
    obtain ⟨hm1, hm2⟩ := Array.mem_filter.1 hmem
    obtain ⟨_, hbl, p, hp, he⟩ := hb left[k] (by simpa using hm1)
    refine .inr ⟨left[k].born, p, { w with heap := w.heap.setIfInBounds r (.mapIter (some mp) l.length (seen.push left[k].born) l.length), drawn := w.drawn + n }, by simpa using hp, by simpa using hm2, ?_, ?_, ?_, ?_, ?_, ?_⟩
    · simp only [hemp, Bool.false_eq_true, if_false, Array.append_empty, Array.empty_append, Array.size_map]
      rw [hch]
      have hg : (left.map some)[k]? = some (some left[k]) := by simp [hk]
      rw [hg]
      have e1 : left[k].key = .int .i64 p.1 := by rw [he]; rfl
      have e2 : left[k].val = .pointer (some ⟨p.2, 0, none⟩) := by rw [he]; rfl
      simp [setObj, Sem.run, hi, Result.andThen, e1, e2, World.drewN]
    · have := obj_lt hi
      simp [IterAt, this]
    · exact ⟨rfl, rfl, rfl, by simp, fun k' _ hn => by simp only [Array.getElem?_setIfInBounds]; rw [if_neg (fun e => hn e.symm)]⟩
    · simp
    · simp only [MapIs, Array.getElem?_setIfInBounds]
      rw [if_neg (fun e => hne e.symm)]
      exact h
    · have h1 : (w.heap.setIfInBounds r (.mapIter (some mp) l.length (seen.push left[k].born) l.length))[r]? = some (.mapIter (some mp) l.length (seen.push left[k].born) l.length) := by
        have := obj_lt hi
        simp [this]
      have h2 : (w.heap.setIfInBounds r (.mapIter (some mp) l.length (seen.push left[k].born) l.length))[mp]? = some (.map (entsK l 0).toArray l.length) := by
        rw [Array.getElem?_setIfInBounds, if_neg (fun e => hne e.symm)]
        exact h
      have h3 := find_born left[k] (entsK l 0) (born_nodup l 0) (by simpa using hm1)
      have e1 : left[k].key = .int .i64 p.1 := by rw [he]; rfl
      have e2 : left[k].val = .pointer (some ⟨p.2, 0, none⟩) := by rw [he]; rfl
      simp [Instr.entry, getObj, Sem.run, h1, h2, h3, Result.andThen, e1, e2]
end
end Go.Proofs.YtlldgfejcjnpkaaGreat
/- What a diag holds (the records noted so far), and the contract of Note. -/
namespace Go.Proofs.YtlldgfejcjnpkaaGreat
open Go.RowKit

/-- How often a code was noted. -/
def cnt (c : Int) (L : List Rec) : Nat := (L.filter fun r => r.code == c).length
/-- The records that are kept: the last sixteen. -/
def kept (L : List Rec) : List Rec := L.drop (L.length - 16)
def recsCells (l : List Rec) : List Value := l.flatMap fun r => r.cells.toList

/-- A diag in memory: n is the count, lr the last record, Lc the records that were counted by code, Lr those that are kept. -/
structure DiagG (w : World) (a n : Nat) (lr : Option Rec) (Lc Lr : List Rec) (F : Nat → Prop) (bm mp : Nat) (vl : Value) (last : Option Addr) (cs : List (Int × Nat)) : Prop where
  self : Blk w a 187 #[.pointer (some ⟨bm, 0, none⟩), .map (some mp), vl]
  all : Blk w bm 241 (meterCells n last)
  lst : LastAt w last lr
  map : MapIs w mp cs
  keys : (cs.map Prod.fst).Nodup
  cntr : ∀ c b, lk cs c = some b → b ≠ bm ∧ F b ∧ Blk w b 241 (meterCells (cnt c Lc) none)
  none_ : ∀ c, lk cs c = none → cnt c Lc = 0
  apart : (cs.map Prod.snd).Nodup
  row : w.ownsRow 0 202 4 vl Lr.length (recsCells Lr)
  fa : F a
  fbm : F bm
  fmp : F mp
  frow : ∀ g, vl.ownBlock = some g → F g
  flast : ∀ p, last = some p → F p.block
  lrow : ∀ p, last = some p → vl.ownBlock ≠ some p.block

def Numbered (L : List Rec) : Prop := ∀ i r, L[i]? = some r → r.at_ = ((i + 1 : Nat) : Int)
def DiagIs (w : World) (a : Nat) (L : List Rec) (F : Nat → Prop) : Prop :=
  Numbered L ∧ ∃ bm mp vl last cs, DiagG w a L.length L.getLast? L (kept L) F bm mp vl last cs ∧ ∀ c b, lk cs c = some b → 0 < cnt c L

theorem rec_info : (Tryz.prog.info? 202).map (fun i => (i.zero, i.size, i.bytes)) = some (some (.agg #[.int .i64 0, .int .i64 0, .int .u32 0, .int .u32 0]), 4, 24) := by kernel_rfl
theorem cast_add_one (n : Nat) : ((n : Int) + 1) = ((n + 1 : Nat) : Int) := by omega
theorem zero_ptr (w : World) : (zeroValue 155).run Tryz.prog w = .ok (.pointer none) w := by kernel_rfl

section
variable {w w' : World} {a n : Nat} {lr : Option Rec} {Lc Lr : List Rec} {F F' : Nat → Prop} {bm mp : Nat} {vl : Value} {last : Option Addr} {cs : List (Int × Nat)}
theorem mem_inj {cs : List (Int × Nat)} (ha : (cs.map Prod.snd).Nodup) {p q : Int × Nat} (m1 : p ∈ cs) (m2 : q ∈ cs) (h : p.2 = q.2) : p = q := by
  induction cs with
  | nil => cases m1
  | cons x r ih =>
    rw [List.map_cons, List.nodup_cons] at ha
    rcases List.mem_cons.1 m1 with rfl | m1
    · rcases List.mem_cons.1 m2 with e | m2
      · exact e.symm
      · exact absurd (show p.2 ∈ r.map Prod.snd from List.mem_map.2 ⟨q, m2, h.symm⟩) ha.1
    · rcases List.mem_cons.1 m2 with e | m2
      · exact absurd (show x.2 ∈ r.map Prod.snd from List.mem_map.2 ⟨p, m1, by rw [h, e]⟩) ha.1
      · exact ih ha.2 m1 m2
theorem lk_inj {cs : List (Int × Nat)} (ha : (cs.map Prod.snd).Nodup) {c d : Int} {b : Nat} (h1 : lk cs c = some b) (h2 : lk cs d = some b) : c = d :=
  congrArg Prod.fst (mem_inj ha (lk_mem h1) (lk_mem h2) rfl)
theorem DiagG.keep (D : DiagG w a n lr Lc Lr F bm mp vl last cs) {S : Nat → Prop} (hk : Keep S w w') (hS : ∀ b, F b → ¬ S b) (hF : ∀ b, F b → F' b) : DiagG w' a n lr Lc Lr F' bm mp vl last cs where
  self := D.self.keep hk (hS _ D.fa)
  all := D.all.keep hk (hS _ D.fbm)
  lst := D.lst.keep hk (fun g _ h _ => hS _ (D.flast _ h))
  map := hk.obj D.map (hS _ D.fmp)
  keys := D.keys
  cntr := fun c b h => by
    obtain ⟨h1, h2, h3⟩ := D.cntr c b h
    exact ⟨h1, hF _ h2, h3.keep hk (hS _ h2)⟩
  none_ := D.none_
  apart := D.apart
  row := ownsRow_keep D.row hk (fun g h => hS _ (D.frow g h))
  fa := hF _ D.fa
  fbm := hF _ D.fbm
  fmp := hF _ D.fmp
  frow := fun g h => hF _ (D.frow g h)
  flast := fun p h => hF _ (D.flast p h)
  lrow := D.lrow
/-- The world behind 'm = meter.New(); d.counts[code] = m'. -/
def addedWorld (w : World) (mp : Nat) (cs : List (Int × Nat)) (code : Int) : World :=
  { w.alloc (.cells (meterCells 0 none) 241) with heap := (w.alloc (.cells (meterCells 0 none) 241)).heap.setIfInBounds mp (.map (entsK (cs ++ [(code, w.heap.size)]) 0).toArray (cs.length + 1)) }
theorem added_keep (w : World) (mp : Nat) (cs : List (Int × Nat)) (code : Int) : Keep (fun k => k = mp) w (addedWorld w mp cs code) :=
  ((Keep.refl (fun k => k = mp) w).alloc _).trans (keep_setObj _ mp _)
theorem added_size (w : World) (mp : Nat) (cs : List (Int × Nat)) (code : Int) : (addedWorld w mp cs code).heap.size = w.heap.size + 1 := by simp [addedWorld]
theorem DiagG.added (D : DiagG w a n lr Lc Lr F bm mp vl last cs) {code : Int} (hn : lk cs code = none) :
    DiagG (addedWorld w mp cs code) a n lr Lc Lr (fun x => F x ∨ (w.heap.size ≤ x ∧ x < (addedWorld w mp cs code).heap.size)) bm mp vl last (cs ++ [(code, w.heap.size)]) := by
  have hk := added_keep w mp cs code
  have hm1 : MapIs (w.alloc (.cells (meterCells 0 none) 241)) mp cs := Keep.obj ((Keep.refl (fun _ => False) w).alloc _) D.map (fun h => h)
  have hlt := D.map.lt
  have hnew : Blk (addedWorld w mp cs code) w.heap.size 241 (meterCells 0 none) :=
    (Blk.new w _ _).keep (keep_setObj _ mp _) (by omega)
  have hF : ∀ c b, lk cs c = some b → b < w.heap.size := fun c b h => (D.cntr c b h).2.2.lt
  refine ⟨D.self.keep hk (D.self.ne_map D.map), D.all.keep hk (D.all.ne_map D.map), D.lst.keep hk (fun g x _ h => h.ne_map D.map), hm1.updated code w.heap.size, ?_, ?_, ?_, ?_, ownsRow_keep D.row hk (own_ne_map D.row D.map),
    .inl D.fa, .inl D.fbm, .inl D.fmp, fun g h => .inl (D.frow g h), fun p h => .inl (D.flast p h), D.lrow⟩
  · rw [List.map_append, List.nodup_append]
    refine ⟨D.keys, by simp, fun x hx y hy => ?_⟩
    simp only [List.map_cons, List.map_nil, List.mem_singleton] at hy
    subst hy
    intro e
    exact lk_none.1 hn (e ▸ hx)
  · intro c b h
    rw [lk_snoc] at h
    cases hc : lk cs c with
    | some b' =>
      rw [hc] at h
      simp only [Option.some_or, Option.some.injEq] at h
      subst h
      obtain ⟨h1, h2, h3⟩ := D.cntr c b' hc
      exact ⟨h1, .inl h2, h3.keep hk (h3.ne_map D.map)⟩
    | none =>
      rw [hc] at h
      by_cases e : code = c
      · subst e
        simp only [if_true, Option.none_or, Option.some.injEq] at h
        subst h
        refine ⟨by have := D.all.lt; omega, .inr ⟨Nat.le_refl _, by rw [added_size]; omega⟩, ?_⟩
        rw [D.none_ _ hc]
        exact hnew
      · simp [e] at h
  · intro c h
    rw [lk_snoc] at h
    cases hc : lk cs c with
    | some b' => rw [hc] at h; simp at h
    | none => exact D.none_ _ hc
  · rw [List.map_append, List.nodup_append]
    refine ⟨D.apart, by simp, fun x hx y hy => ?_⟩
    simp only [List.map_cons, List.map_nil, List.mem_singleton] at hy
    subst hy
    obtain ⟨p, hp, rfl⟩ := List.mem_map.1 hx
    have := hF p.1 p.2 (lk_of_mem D.keys hp)
    omega
/-- The world behind both counts and 'r := Record{..}'. -/
def countedWorld (w : World) (b bm : Nat) (m n : Int) (r : Rec) : World := ((w.setCell ⟨b, 0, none⟩ (.int .u64 (m + 1))).setCell ⟨bm, 0, none⟩ (.int .u64 (n + 1))).alloc (.cells r.cells 202)
theorem counted_keep (w : World) (b bm : Nat) (m n : Int) (r : Rec) : Keep (fun k => k = b ∨ k = bm) w (countedWorld w b bm m n r) :=
  (((Keep.refl (fun k => k = b ∨ k = bm) w).setCell (p := ⟨b, 0, none⟩) (fun _ => .inl rfl) _).setCell (p := ⟨bm, 0, none⟩) (fun _ => .inr rfl) _).alloc _
theorem counted_size (w : World) (b bm : Nat) (m n : Int) (r : Rec) : (countedWorld w b bm m n r).heap.size = w.heap.size + 1 := by simp [countedWorld, World.setCell]
theorem counted_rec (w : World) (b bm : Nat) (m n : Int) (r : Rec) : Blk (countedWorld w b bm m n r) w.heap.size 202 r.cells := Blk.new' _ _ _ (by simp [World.setCell])
theorem cnt_snoc (c : Int) (L : List Rec) (r : Rec) : cnt c (L ++ [r]) = cnt c L + if r.code = c then 1 else 0 := by
  unfold cnt
  rw [List.filter_append, List.length_append]
  by_cases h : r.code = c <;> simp [h]
theorem DiagG.counted (D : DiagG w a n lr Lc Lr F bm mp vl last cs) (r : Rec) {b : Nat} (hb : lk cs r.code = some b) :
    DiagG (countedWorld w b bm (cnt r.code Lc) n r) a (n + 1) lr (Lc ++ [r]) Lr F bm mp vl last cs := by
  have hk := counted_keep w b bm (cnt r.code Lc) n r
  obtain ⟨hbm, hFb, hBb⟩ := D.cntr _ _ hb
  have hmp : ∀ {g t cs'}, Blk w g t cs' → mp ≠ g := fun h => (h.ne_map D.map).symm
  refine ⟨D.self.keep hk ?_, ?_, D.lst.keep hk ?_, hk.obj D.map ?_, D.keys, ?_, ?_, D.apart, ownsRow_keep D.row hk ?_, D.fa, D.fbm, D.fmp, D.frow, D.flast, D.lrow⟩
  · rintro (h | h)
    · exact D.self.ne_ hBb (by decide) h
    · exact D.self.ne_ D.all (by decide) h
  · have := (((D.all.far (p := ⟨b, 0, none⟩) hbm.symm (.int .u64 ((cnt r.code Lc : Int) + 1))).set_ 0 (.int .u64 ((n : Int) + 1))).alloc (.cells r.cells 202))
    rw [← cast_add_one]
    exact this
  · rintro g x _ hx (h | h)
    · exact hx.ne_ hBb (by decide) h
    · exact hx.ne_ D.all (by decide) h
  · rintro (h | h)
    · exact hmp hBb h
    · exact hmp D.all h
  · intro c b' h
    obtain ⟨h1, h2, h3⟩ := D.cntr c b' h
    refine ⟨h1, h2, ?_⟩
    rw [cnt_snoc]
    by_cases e : r.code = c
    · subst e
      rw [hb] at h
      obtain rfl := Option.some.inj h
      have := (((h3.set_ 0 (.int .u64 ((cnt r.code Lc : Int) + 1))).far (p := ⟨bm, 0, none⟩) hbm (.int .u64 ((n : Int) + 1))).alloc (.cells r.cells 202))
      rw [if_pos rfl, ← cast_add_one]
      exact this
    · have hne : b' ≠ b := fun e' => e (lk_inj D.apart hb (e' ▸ h))
      rw [if_neg e, Nat.add_zero]
      exact h3.keep hk (fun h' => h'.elim hne h1)
  · intro c h
    rw [cnt_snoc, D.none_ c h, if_neg]
    rintro rfl
    rw [hb] at h
    cases h
  · intro g hg
    have hne := fun t cs' (hB : Blk w g t cs') => hB
    rcases D.row.2 with ⟨rfl, _⟩ | ⟨g', cap, cur, rfl, _, hh, _⟩
    · simp [Value.ownBlock] at hg
    · simp only [Value.ownBlock, Option.some.injEq] at hg
      subst hg
      rintro (h | h)
      · exact Blk.ne_ (t := 202) hh hBb (by decide) h
      · exact Blk.ne_ (t := 202) hh D.all (by decide) h
/-- The last record is laid. -/
theorem DiagG.lasted (D : DiagG w a n lr Lc Lr F bm mp vl last cs) (hk : Keep (fun k => k = bm) w w') {x : Rec} (hl : LastAt w' (some ⟨w.heap.size, 0, none⟩) (some x)) (hb : Blk w' bm 241 (meterCells n (some ⟨w.heap.size, 0, none⟩))) :
    DiagG w' a n (some x) Lc Lr (fun y => F y ∨ (w.heap.size ≤ y ∧ y < w'.heap.size)) bm mp vl (some ⟨w.heap.size, 0, none⟩) cs := by
  refine ⟨D.self.keep hk (D.self.ne_ D.all (by decide)), hb, hl, hk.obj D.map (D.all.ne_map D.map).symm, D.keys, fun c b h => ?_, D.none_, D.apart, ownsRow_keep D.row hk ?_, .inl D.fa, .inl D.fbm, .inl D.fmp, fun g h => .inl (D.frow g h), ?_, ?_⟩
  · obtain ⟨h1, h2, h3⟩ := D.cntr c b h
    exact ⟨h1, .inl h2, h3.keep hk h1⟩
  · intro g hg
    rcases D.row.2 with ⟨rfl, _⟩ | ⟨g', cap, cur, rfl, _, hh, _⟩
    · simp [Value.ownBlock] at hg
    · simp only [Value.ownBlock, Option.some.injEq] at hg
      subst hg
      exact Blk.ne_ (t := 202) hh D.all (by decide)
  · rintro p hp
    obtain rfl := Option.some.inj hp
    rcases hl with ⟨h, _⟩ | ⟨g, y, _, h2, h3⟩
    · cases h
    · simp only [Option.some.injEq, Addr.mk.injEq, and_true] at h2
      subst h2
      exact .inr ⟨Nat.le_refl _, h3.lt⟩
  · rintro p hp h
    obtain rfl := Option.some.inj hp
    have := (D.row.lt _ h).2
    simp at this
theorem reads_tail {base : Nat} {e : TypeId} {g n cap : Nat} {xs : List Value} (h : w.ownsRow base e 4 (.slice (some ⟨g, 0, none⟩) (n + 1) cap) (n + 1) xs) : Reads w w.heap.size 4 (some ⟨g, 4, none⟩) n (xs.drop 4) := by
  refine ⟨by rw [List.length_drop, h.1]; omega, fun _ => ⟨⟨g, 4, none⟩, rfl, (h.lt g rfl).2, fun j u hu => ?_⟩⟩
  rw [List.getElem?_drop] at hu
  have := h.cells rfl (4 + j) u hu
  rw [← this]
  unfold Addr.add
  by_cases hj : j = 0
  · subst hj; rfl
  · rw [if_neg hj, if_neg (by omega)]; simp
/-- The list is stored anew. -/
theorem DiagG.restored (D : DiagG w a n lr Lc Lr F bm mp vl last cs) {Lr' : List Rec} {w4 : World} {v : Value} (hb : Below w.heap.size w w4) (hown : w4.ownsRow w.heap.size 202 4 v Lr'.length (recsCells Lr')) :
    DiagG (w4.setCell ⟨a, 2, none⟩ v) a n lr Lc Lr' (fun y => F y ∨ (w.heap.size ≤ y ∧ y < w4.heap.size)) bm mp v last cs ∧ Keep F w (w4.setCell ⟨a, 2, none⟩ v) := by
  have hk1 : Keep (fun _ => False) w w4 := Keep.of_below hb
  have hself := D.self.keep hk1 (fun h => h)
  have hk2 : Keep (fun k => k = a) w4 (w4.setCell ⟨a, 2, none⟩ v) := (Keep.refl (fun k => k = a) _).setCell (p := ⟨a, 2, none⟩) (fun _ => rfl) _
  have hk : Keep (fun k => k = a) w (w4.setCell ⟨a, 2, none⟩ v) := (hk1.mono (fun _ _ h => h.elim)).trans hk2
  have hnew : ∀ g, v.ownBlock = some g → w.heap.size ≤ g ∧ g < w4.heap.size := fun g h => hown.lt g h
  refine ⟨⟨hself.set_ 2 _, D.all.keep hk (D.all.ne_ D.self (by decide)), D.lst.keep hk (fun g x _ h => h.ne_ D.self (by decide)), hk.obj D.map (fun e => D.self.ne_map D.map e.symm), D.keys, fun c' b h => ?_, D.none_, D.apart, ?_, .inl D.fa, .inl D.fbm, .inl D.fmp, fun g h => .inr (hnew g h), fun p h => .inl (D.flast p h), ?_⟩, hk.mono (fun k _ h => h ▸ D.fa)⟩
  · obtain ⟨h1, h2, h3⟩ := D.cntr c' b h
    exact ⟨h1, .inl h2, h3.keep hk (h3.ne_ D.self (by decide))⟩
  · refine ownsRow_keep (own_base hown (Nat.zero_le _)) hk2 ?_
    rintro g hg' rfl
    exact own_ne hown hself (by decide) hg'
  · rintro p hp h
    have := (hnew _ h).1
    rcases D.lst with ⟨_, h'⟩ | ⟨g, x, _, h2, h3⟩
    · rw [hp] at h'; cases h'
    · rw [hp] at h2
      obtain rfl := Option.some.inj h2
      have := h3.lt
      simp only at *
      omega
theorem recsCells_one (l : List Rec) : ∀ u ∈ recsCells l, u.oneCell' = true := by
  intro u hu
  obtain ⟨r, _, hr⟩ := List.mem_flatMap.1 hu
  simp only [Rec.cells, List.mem_cons, List.not_mem_nil, or_false] at hr
  rcases hr with rfl | rfl | rfl | rfl <;> rfl
theorem recsCells_length (l : List Rec) : (recsCells l).length = l.length * 4 := by
  induction l with
  | nil => rfl
  | cons r l ih =>
    show ((r.cells.toList ++ recsCells l)).length = _
    rw [List.length_append, ih]
    simp [Rec.cells]
    omega
theorem recsCells_drop (l : List Rec) (k : Nat) : recsCells (l.drop k) = (recsCells l).drop (k * 4) := by
  induction l generalizing k with
  | nil => simp [recsCells]
  | cons r l ih =>
    cases k with
    | zero => simp
    | succ k =>
      rw [List.drop_succ_cons, ih]
      show _ = (r.cells.toList ++ recsCells l).drop _
      have h4 : r.cells.toList.length = 4 := rfl
      rw [List.drop_append, h4, show List.drop ((k + 1) * 4) r.cells.toList = [] from List.drop_eq_nil_of_le (by omega), List.nil_append]
      congr 1
      omega
theorem kept_snoc_few (L : List Rec) (r : Rec) (h : L.length < 16) : kept (L ++ [r]) = kept L ++ [r] := by
  unfold kept
  rw [List.length_append, List.length_singleton, show L.length + 1 - 16 = 0 by omega, show L.length - 16 = 0 by omega]
  rfl
theorem kept_snoc_many (L : List Rec) (r : Rec) (h : ¬ L.length < 16) : kept (L ++ [r]) = (kept L ++ [r]).drop 1 := by
  unfold kept
  rw [List.length_append, List.length_singleton]
  rw [← List.drop_append_of_le_length (by omega), List.drop_drop]
  congr 1
  omega
theorem addr_add0 (g n : Nat) : (⟨g, 0, none⟩ : Addr).add n = ⟨g, n, none⟩ := by
  unfold Addr.add
  by_cases h : n = 0 <;> simp [h]
theorem recsCells_get (l : List Rec) : ∀ (k : Nat) (r : Rec), l[k]? = some r → ∀ j, j < 4 → (recsCells l)[k * 4 + j]? = r.cells.toList[j]? := by
  induction l with
  | nil => intro k r h; simp at h
  | cons x l ih =>
    intro k r h j hj
    have e : recsCells (x :: l) = x.cells.toList ++ recsCells l := rfl
    have h4 : x.cells.toList.length = 4 := rfl
    cases k with
    | zero =>
      simp only [List.getElem?_cons_zero, Option.some.injEq] at h
      subst h
      rw [e, List.getElem?_append_left (by omega)]
      simp
    | succ k =>
      rw [List.getElem?_cons_succ] at h
      rw [e, List.getElem?_append_right (by omega), h4, ← ih k r h j hj]
      congr 1
      omega
/-- The cells of the i-th record of an owned row. -/
theorem own_recs {w : World} {base : Nat} {A : Option Addr} {n c : Nat} {l : List Rec} (h : w.ownsRow base 202 4 (.slice A n c) n (recsCells l)) (hn : 0 < n) : ∃ g, A = some ⟨g, 0, none⟩ ∧
    ∀ i r, l[i]? = some r → w.cell? ⟨g, i * 4, none⟩ = some (.int .i64 r.at_) ∧ w.cell? ⟨g, i * 4 + 1, none⟩ = some (.int .i64 r.code) ∧ w.cell? ⟨g, i * 4 + 2, none⟩ = some (.int .u32 r.s) ∧ w.cell? ⟨g, i * 4 + 3, none⟩ = some (.int .u32 r.k) := by
  rcases h.2 with ⟨_, h0⟩ | ⟨g, cap, cur, hv, _⟩
  · omega
  · injection hv with h1 h2 h3
    subst h1
    have hc := h.cells (g := g) rfl
    refine ⟨g, rfl, fun i r hr => ?_⟩
    have hcells := recsCells_get l i r hr
    have f := fun j u hj (hu : r.cells.toList[j]? = some u) => (addr_add0 g (i * 4 + j)) ▸ hc (i * 4 + j) u ((hcells j hj).trans hu)
    exact ⟨f 0 _ (by omega) rfl, f 1 _ (by omega) rfl, f 2 _ (by omega) rfl, f 3 _ (by omega) rfl⟩
theorem recsCells_append (l m : List Rec) : recsCells (l ++ m) = recsCells l ++ recsCells m := by simp [recsCells]
/-- The record is appended to the list, and the list stored back. -/
theorem DiagG.appended (D : DiagG w a n lr Lc Lr F bm mp vl last cs) (r : Rec) {o : Obj} {w4 : World} {A : Option Addr} {c : Nat} (hg : (w.alloc o).drew.grownBy w4 vl.ownBlock)
    (hown : w4.ownsRow 0 202 4 (.slice A (Lr.length + 1) c) (Lr.length + 1) (recsCells Lr ++ r.cells.toList)) (hat : (Value.slice A (Lr.length + 1) c).ownBlock = vl.ownBlock ∨ (Value.slice A (Lr.length + 1) c).ownBlock = some (w.alloc o).drew.heap.size) :
    DiagG (w4.setCell ⟨a, 2, none⟩ (.slice A (Lr.length + 1) c)) a n lr Lc (Lr ++ [r]) (fun y => F y ∨ (w.heap.size ≤ y ∧ y < w4.heap.size)) bm mp (.slice A (Lr.length + 1) c) last cs ∧
      Keep F w (w4.setCell ⟨a, 2, none⟩ (.slice A (Lr.length + 1) c)) := by
  have hk1 : Keep (fun k => vl.ownBlock = some k) w w4 := ((Keep.refl (fun k => vl.ownBlock = some k) w).alloc o).drew.grown hg (fun k h _ => h)
  have hrow : ∀ {g t cs'}, Blk w g t cs' → 202 ≠ t → vl.ownBlock ≠ some g := fun h hne => own_ne D.row h hne
  have hself := D.self.keep hk1 (hrow D.self (by decide))
  have hlt4 : ∀ g, (Value.slice A (Lr.length + 1) c).ownBlock = some g → g < w4.heap.size := fun g h => (hown.lt g h).2
  have hk2 : Keep (fun k => k = a) w4 (w4.setCell ⟨a, 2, none⟩ (.slice A (Lr.length + 1) c)) := (Keep.refl (fun k => k = a) _).setCell (p := ⟨a, 2, none⟩) (fun _ => rfl) _
  have hk : Keep (fun k => vl.ownBlock = some k ∨ k = a) w (w4.setCell ⟨a, 2, none⟩ (.slice A (Lr.length + 1) c)) :=
    (hk1.mono (fun _ _ h => .inl h)).trans (hk2.mono (fun _ _ h => .inr h))
  have hN : ∀ {g t cs'}, Blk w g t cs' → 202 ≠ t → 187 ≠ t → ¬ (vl.ownBlock = some g ∨ g = a) := by
    rintro g t cs' h h1 h2 (e | e)
    · exact hrow h h1 e
    · exact h.ne_ D.self h2.symm e
  refine ⟨⟨hself.set_ 2 _, D.all.keep hk (hN D.all (by decide) (by decide)), ?_, hk.obj D.map ?_, D.keys, fun c' b h => ?_, D.none_, D.apart, ?_, .inl D.fa, .inl D.fbm, .inl D.fmp, ?_, fun p h => .inl (D.flast p h), ?_⟩, hk.mono ?_⟩
  · rcases D.lst with h | ⟨g, x, h1, h2, h3⟩
    · exact .inl h
    · refine .inr ⟨g, x, h1, h2, h3.keep hk ?_⟩
      rintro (e | e)
      · exact D.lrow _ h2 e
      · exact h3.ne_ D.self (by decide) e
  · rintro (e | e)
    · exact own_ne_map D.row D.map mp e rfl
    · exact (D.self.ne_map D.map) e.symm
  · obtain ⟨h1, h2, h3⟩ := D.cntr c' b h
    exact ⟨h1, .inl h2, h3.keep hk (hN h3 (by decide) (by decide))⟩
  · rw [List.length_append, recsCells_append]
    refine ownsRow_keep (n := Lr.length + 1) (xs := recsCells Lr ++ recsCells [r]) ?_ hk2 ?_
    · simpa [recsCells] using hown
    · rintro g hg' rfl
      exact own_ne hown hself (by decide) hg'
  · intro g hg'
    rcases hat with e | e
    · rw [hg'] at e
      exact .inl (D.frow g e.symm)
    · have := hlt4 g hg'
      rw [hg'] at e
      obtain rfl := Option.some.inj e
      exact .inr ⟨by show w.heap.size ≤ (w.alloc o).heap.size; simp, this⟩
  · rintro p hp h
    rcases hat with e | e
    · exact D.lrow p hp (e ▸ h)
    · rw [h] at e
      have h1 := Option.some.inj e
      rcases D.lst with ⟨_, h'⟩ | ⟨g, x, _, h2, h3⟩
      · rw [hp] at h'; cases h'
      · rw [hp] at h2
        obtain rfl := Option.some.inj h2
        have := h3.lt
        have h4 : (w.alloc o).drew.heap.size = w.heap.size + 1 := by show (w.alloc o).heap.size = _; simp
        simp only at h1
        omega
  · rintro k _ (h | rfl)
    · exact D.frow k h
    · exact D.fa
theorem DiagIs.keep {L : List Rec} (h : DiagIs w a L F) {S : Nat → Prop} (hk : Keep S w w') (hS : ∀ b, F b → ¬ S b) (hF : ∀ b, F b → F' b) : DiagIs w' a L F' := by
  obtain ⟨h1, bm, mp, vl, last, cs, D, h2⟩ := h
  exact ⟨h1, bm, mp, vl, last, cs, D.keep hk hS hF, h2⟩
theorem DiagIs.below {L : List Rec} (h : DiagIs w a L F) (hb : Below w.heap.size w w') : DiagIs w' a L F := h.keep (S := fun _ => False) (Keep.of_below hb) (fun _ _ h => h) (fun _ h => h)
theorem DiagIs.drewN {L : List Rec} (h : DiagIs w a L F) (k : Nat) : DiagIs (w.drewN k) a L F := h.keep (S := fun _ => False) ((Keep.refl _ w).drewN k) (fun _ _ h => h) (fun _ h => h)
theorem DiagIs.made {L : List Rec} {r : Rec} (hN : Numbered L) (hr : r.at_ = L.length + 1) (hp : ∀ c b, lk cs c = some b → c ≠ r.code → 0 < cnt c L)
    (D : DiagG w a (L.length + 1) (some r) (L ++ [r]) (kept (L ++ [r])) F bm mp vl last cs) : DiagIs w a (L ++ [r]) F := by
  refine ⟨fun i x hx => ?_, bm, mp, vl, last, cs, ?_, fun c b h => ?_⟩
  · rcases Nat.lt_or_ge i L.length with h | h
    · rw [List.getElem?_append_left h] at hx
      exact hN i x hx
    · rw [List.getElem?_append_right h] at hx
      have : i - L.length = 0 := by
        rcases Nat.eq_zero_or_pos (i - L.length) with h0 | h0
        · exact h0
        · rw [List.getElem?_eq_none (by simp only [List.length_singleton]; omega)] at hx; cases hx
      rw [this] at hx
      simp only [List.getElem?_cons_zero, Option.some.injEq] at hx
      subst hx
      rw [hr]
      omega
  · rw [List.length_append, List.length_singleton, List.getLast?_append]
    exact D
  · rw [cnt_snoc]
    by_cases e : r.code = c
    · rw [if_pos e]; omega
    · have := hp c b h (fun x => e x.symm)
      omega
end

set_option maxHeartbeats 400000
set_option maxRecDepth 100000
theorem diagNote_any (a : Nat) (L : List Rec) (F : Nat → Prop) (code s k : Int) (w : World) (hc : (code == 0) = false) (hD : DiagIs w a L F) (hs : L.length < 1073741823) :
    Calls Tryz.prog 56 #[.pointer (some ⟨a, 0, none⟩), .int .i64 code, .int .u32 s, .int .u32 k] w fun e w' =>
      e = .returned (.tuple #[.int .i64 (L.length + 1), .int .i64 0]) ∧ DiagIs w' a (L ++ [⟨L.length + 1, code, s, k⟩]) (fun x => F x ∨ (w.heap.size ≤ x ∧ x < w'.heap.size)) ∧ Keep F w w' := by
  obtain ⟨hnum, bm, mp, vl, last, cs, D, hpos⟩ := hD
  have hNum := Lib.hid hnum
  clear hnum
  have hlook := D.map.run_lookup (P := Tryz.prog) Tryz.underlying185 Tryz.underlying25 (zero_ptr w) code
  have hA0 : ∀ i, w.cell? ⟨a, i, none⟩ = (#[.pointer (some ⟨bm, 0, none⟩), .map (some mp), vl] : Array Value)[i]? := D.self.cell
  go_enter Tryz.func56, Tryz.ntmps56
  go_upto_if 27 with (fail)
  go_cut [10] (fun v10 wc => ∃ (b : Nat) (cs' : List (Int × Nat)), v10 = .pointer (some ⟨b, 0, none⟩) ∧ DiagG wc a L.length L.getLast? L (kept L) (fun x => F x ∨ (w.heap.size ≤ x ∧ x < wc.heap.size)) bm mp vl last cs' ∧ lk cs' code = some b ∧ (∀ c b', lk cs' c = some b' → c ≠ code → 0 < cnt c L) ∧ Keep F w wc)
  case first =>
    cases hb : lk cs code with
    | some b =>
      have e1 : lkv cs code = some ⟨b, 0, none⟩ := by simp [lkv, hb]
      rw [e1]
      have hlk := Lib.hid hb
      clear hb hlook e1
      go_wp2_with fail
      go_meet
      case rel => exact ⟨b, cs, rfl, D.keep (Keep.refl (fun _ => False) w) (fun _ _ h => h) (fun _ h => .inl h), hlk.out, fun c b' h _ => hpos c b' h, Keep.refl _ _⟩
    | none =>
      have e1 : lkv cs code = none := by simp [lkv, hb]
      rw [e1]
      have hlk := Lib.hid hb
      clear hb hlook e1
      have hA1 := fun (W : World) (hlt : a < W.heap.size) => cellA hlt
      have halt := D.self.lt
      have hup := fun (o : Obj) => (show MapIs (w.alloc o) mp cs from (Keep.obj ((Keep.refl (fun _ => False) w).alloc o) D.map (fun h => h))).run_update (P := Tryz.prog) Tryz.underlying185 Tryz.underlying25 code w.heap.size hlk.out
      go_wp2_with fail
      refine (meterNew_any _).mono ?_
      rintro e w' ⟨rfl, rfl⟩
      go_wp2_with fail
      go_meet
      case rel => exact ⟨w.heap.size, cs ++ [(code, w.heap.size)], rfl, D.added hlk.out, by rw [lk_snoc, hlk.out]; simp, fun c b' h hne => hpos c b' (by rw [lk_snoc] at h; simpa [Ne.symm hne] using h), (added_keep w mp cs code).mono (fun b _ h => by subst h; exact D.fmp)⟩
  case rest =>
    obtain ⟨W1, rfl⟩ : ∃ W1 : World, W1 = wc := ⟨_, rfl⟩
    clear hlook hA0
    obtain ⟨b, cs', rfl, D1, hb, hpos1, hk1⟩ := hcut
    obtain ⟨hbm, hFb, hBb⟩ := D1.cntr _ _ hb
    have hab := D1.self.ne_ hBb (by decide)
    have hHb := Lib.hid hb
    have Hpos := Lib.hid hpos1
    clear hb hpos1
    have hA0 : ∀ i, W1.cell? ⟨a, i, none⟩ = (#[.pointer (some ⟨bm, 0, none⟩), .map (some mp), vl] : Array Value)[i]? := D1.self.cell
    have hS := fun (W : World) => cellS (g := a) W hab.symm
    have hS2 := fun (W : World) => cellS (g := a) W (D1.self.ne_ D1.all (by decide)).symm
    have hall := D1.all.far (p := ⟨b, 0, none⟩) hbm.symm (.int .u64 (cnt code L + 1))
    go_wp2_with fail
    refine (meterAdd_one b _ _ _ (by omega) (by have := List.length_filter_le (fun r : Rec => r.code == code) L; unfold cnt; omega) hBb).mono ?_
    rintro e w' ⟨rfl, rfl⟩
    go_wp2_with fail
    refine (meterAdd_one bm _ _ _ (by omega) (by omega) hall).mono ?_
    rintro e w' ⟨rfl, rfl⟩
    go_wp2_with fail
    change Code.wp _ _ _ _ (countedWorld W1 b bm (cnt code L) L.length ⟨L.length + 1, code, s, k⟩)
    have D2 := D1.counted ⟨L.length + 1, code, s, k⟩ hHb.out
    have hk2 := counted_keep W1 b bm (cnt code L) L.length ⟨L.length + 1, code, s, k⟩
    have hz2 := counted_size W1 b bm (cnt code L) L.length ⟨L.length + 1, code, s, k⟩
    have hr2 := counted_rec W1 b bm (cnt code L) L.length ⟨L.length + 1, code, s, k⟩
    generalize countedWorld W1 b bm (cnt code L) L.length ⟨L.length + 1, code, s, k⟩ = W2 at D2 hk2 hz2 hr2 ⊢
    clear hA0 hS hS2 hall hBb
    have hA0 : ∀ i, W2.cell? ⟨a, i, none⟩ = (#[.pointer (some ⟨bm, 0, none⟩), .map (some mp), vl] : Array Value)[i]? := D2.self.cell
    have hR0 : ∀ i, W2.cell? ⟨W1.heap.size, i, none⟩ = (#[.int .i64 (L.length + 1), .int .i64 code, .int .u32 s, .int .u32 k] : Array Value)[i]? := hr2.cell
    go_still_tail 5, (by kernel_rfl)
    change wpList _ _ _ _ _ (World.drew W2)
    go_wp2_with fail
    have D2' := D2.keep (Keep.refl (fun _ => False) W2).drew (fun _ _ h => h) (fun _ h => h)
    refine (meterNote_any bm _ last _ ⟨L.length + 1, code, s, k⟩ _ D2'.all D2'.lst).mono ?_
    rintro e W3 ⟨v3, rfl, hl3, hb3, hk3⟩
    have D3 := D2'.lasted hk3 hl3 hb3
    clear D2' hl3 hb3 hA0 hR0
    have hs1 := hk1.size
    have hs2 := hk2.size
    have hs3 := hk3.size
    have hk13 : Keep F w W3 := by
      refine hk1.andThen (hk2.andThen ((Keep.refl (fun k => k = bm) W2).drew.trans hk3) (S := fun k => k = b ∨ k = bm) (fun _ _ h => .inr h)) ?_
      rintro x hx (rfl | rfl)
      · rcases hFb with h | h
        · exact h
        · omega
      · exact D.fbm
    go_upto_region 13 with (fail)
    go_cut [] (fun wc => ∃ vl', DiagG wc a (L.length + 1) (some ⟨L.length + 1, code, s, k⟩) (L ++ [⟨L.length + 1, code, s, k⟩]) (kept L ++ [⟨L.length + 1, code, s, k⟩]) (fun x => F x ∨ (w.heap.size ≤ x ∧ x < wc.heap.size)) bm mp vl' (some ⟨W2.heap.size, 0, none⟩) cs' ∧ Keep F w wc ∧ Blk wc W1.heap.size 202 (Rec.cells ⟨L.length + 1, code, s, k⟩))
    case first =>
      have hr3 := hr2.drew.keep hk3 (hr2.ne_ D2.all (by decide))
      have hA0 : ∀ i, W3.cell? ⟨a, i, none⟩ = (#[.pointer (some ⟨bm, 0, none⟩), .map (some mp), vl] : Array Value)[i]? := D3.self.cell
      have hR0 : ∀ i, W3.cell? ⟨W1.heap.size, i, none⟩ = (#[.int .i64 (L.length + 1), .int .i64 code, .int .u32 s, .int .u32 k] : Array Value)[i]? := hr3.cell
      have hZ0 : ∀ i, W3.frozen? ⟨a, i, none⟩ = false := D3.self.frozen
      obtain ⟨i0, hi0, hz0, hz1, hz2⟩ := info_parts rec_info
      have hA1 := fun (W : World) (hlt : a < W.heap.size) => cellA hlt
      have halt := D3.self.lt
      have hkl : (kept L).length ≤ 16 := by unfold kept; rw [List.length_drop]; omega
      go_region_law (refine step_append_any _ rfl (.tmp 61) (.tmp 63) _ rfl 0 202 i0 _ 4 24 Tryz.underlying87 hi0 hz0 hz1 hz2 rfl (by omega) vl (kept L).length (recsCells (kept L)) rfl (D3.row.alloc _) (W3.heap.size + 1) (some ⟨W3.heap.size, 0, none⟩) 1 1 _ rfl (Reads.of_blk (Blk.new W3 _ _) (by omega) rfl) (by simp [Value.oneCell']) (by unfold maxLen; omega) (by omega) (Nat.zero_le _) ?_; intro v4 W4 hown4 hg4 hat4; obtain ⟨A4, c4, rfl⟩ := own_slice hown4; have hB4 := (D3.self.alloc (.cells #[.int .i64 (L.length + 1), .int .i64 code, .int .u32 s, .int .u32 k] 202)).drew.grown hg4 (own_ne D3.row D3.self (by decide)); have hA4 : ∀ i, W4.cell? ⟨a, i, none⟩ = (#[.pointer (some ⟨bm, 0, none⟩), .map (some mp), vl] : Array Value)[i]? := hB4.cell; have hZ4 := hB4.frozen)
      all_goals
        go_wp2_with fail
        go_meet
        case rel =>
          obtain ⟨h1, h2⟩ := D3.appended ⟨L.length + 1, code, s, k⟩ hg4 hown4 hat4
          have hs4 := h2.size
          have e4 : (W4.setCell ⟨a, 2, none⟩ (.slice A4 ((kept L).length + 1) c4)).heap.size = W4.heap.size := by simp [World.setCell]
          have e2 : W2.drew.heap.size = W2.heap.size := rfl
          refine ⟨_, h1.keep (Keep.refl (fun _ => False) _) (fun _ _ h => h) ?_, hk13.andThen h2 ?_, ?_⟩
          · rintro x (((h | h) | h) | h)
            · exact .inl h
            · exact .inr (by omega)
            · exact .inr (by omega)
            · exact .inr (by omega)
          · rintro x hx ((h | h) | h)
            · exact h
            · omega
            · omega
          · have hrw := fun g h => (D1.row.lt g h).2
            exact ((hr3.alloc _).drew.grown hg4 (fun h => by have := hrw _ h; omega)).far (p := ⟨a, 2, none⟩) (hr3.ne_ D3.self (by decide)) _
    case rest =>
      obtain ⟨vl5, D5, hk5, hr5⟩ := hcut
      clear D1 D2 D3 hk1 hk2 hk3 hk13 hs1 hs2 hs3 hz2 hr2 hHb hFb hbm hab D
      obtain ⟨A5, c5, rfl⟩ := own_slice D5.row
      obtain ⟨m, hm⟩ : ∃ m, m = (kept L ++ [(⟨L.length + 1, code, s, k⟩ : Rec)]).length := ⟨_, rfl⟩
      have hA0 : ∀ i, wc.cell? ⟨a, i, none⟩ = (#[.pointer (some ⟨bm, 0, none⟩), .map (some mp), .slice A5 m c5] : Array Value)[i]? := by rw [hm]; exact D5.self.cell
      have hR0 : ∀ i, wc.cell? ⟨W1.heap.size, i, none⟩ = (#[.int .i64 (L.length + 1), .int .i64 code, .int .u32 s, .int .u32 k] : Array Value)[i]? := hr5.cell
      have hkl : m = (kept L).length + 1 := by rw [hm]; simp
      have hkk : (kept L).length = if L.length < 16 then L.length else 16 := by
        unfold kept; rw [List.length_drop]; split <;> omega
      by_cases h16 : L.length < 16
      · rw [if_pos h16] at hkk
        have hd : decide (16 < (m : Int)) = false := by simp; omega
        have Hm := Lib.hid hm
        clear hm hkl hkk
        go_wp2_with fail
        go_ret2
        have D6 := D5
        rw [← kept_snoc_few _ _ h16] at D6
        exact ⟨rfl, DiagIs.made hNum.out rfl Hpos.out D6, hk5⟩
      · rw [if_neg h16] at hkk
        have hd : decide (16 < (m : Int)) = true := by simp; omega
        have hm17 : m = 17 := by omega
        obtain ⟨g5, rfl, hc5⟩ : ∃ g, A5 = some ⟨g, 0, none⟩ ∧ m ≤ c5 := by
          rcases D5.row.2 with ⟨h, _⟩ | ⟨g, cap, cur, h, _, _, h', _⟩
          · injection h with h1 h2; omega
          · injection h with h1 h2 h3; exact ⟨g, h1, by omega⟩
        have hrow5 := D5.row
        rw [← hm, hm17] at hrow5
        have hrd := reads_tail (n := 16) hrow5
        rw [show 4 = 1 * 4 from rfl, ← recsCells_drop] at hrd
        have Hrd := Lib.hid hrd
        have hlen : ((kept L ++ [(⟨L.length + 1, code, s, k⟩ : Rec)]).drop 1).length = 16 := by rw [List.length_drop, ← hm, hm17]
        have Hlen := Lib.hid hlen
        clear hrow5 hrd hlen
        subst hm17
        have Hm := Lib.hid hm
        clear hm hkl hkk
        go_wp2_with fail
        refine (cloneRec_any (some ⟨g5, 4, none⟩) 16 _ _ _ (by simp) Hrd.out (recsCells_one _) (by omega)).mono ?_
        rintro e W6 ⟨v6, rfl, hown6, hb6⟩
        obtain ⟨h1, h2⟩ := D5.restored hb6 (by rw [Hlen.out]; exact hown6)
        obtain ⟨A6, c6, rfl⟩ := own_slice hown6
        have hB6 := D5.self.keep (S := fun _ => False) (Keep.of_below hb6) (fun h => h)
        have hA6 : ∀ i, W6.cell? ⟨a, i, none⟩ = (#[.pointer (some ⟨bm, 0, none⟩), .map (some mp), .slice (some ⟨g5, 0, none⟩) (kept L ++ [(⟨L.length + 1, code, s, k⟩ : Rec)]).length c5] : Array Value)[i]? := hB6.cell
        have hZ6 := hB6.frozen
        have hR6 : ∀ i, W6.cell? ⟨W1.heap.size, i, none⟩ = (#[.int .i64 (L.length + 1), .int .i64 code, .int .u32 s, .int .u32 k] : Array Value)[i]? := (hr5.keep (S := fun _ => False) (Keep.of_below hb6) (fun h => h)).cell
        have hS6 := fun (W : World) => cellS (g := W1.heap.size) W (D5.self.ne_ hr5 (by decide))
        go_wp2_with fail
        go_ret2
        rw [← kept_snoc_many _ _ h16] at h1
        refine ⟨rfl, DiagIs.made hNum.out rfl Hpos.out (h1.keep (Keep.refl (fun _ => False) _) (fun _ _ h => h) ?_), hk5.andThen h2 ?_⟩
        · have e4 : (W6.setCell ⟨a, 2, none⟩ (.slice A6 16 c6)).heap.size = W6.heap.size := by simp [World.setCell]
          have := hk5.size
          have := hb6.size
          rintro x ((h | h) | h)
          · exact .inl h
          · exact .inr (by omega)
          · exact .inr (by omega)
        · rintro x hx (h | h)
          · exact h
          · omega
end Go.Proofs.YtlldgfejcjnpkaaGreat
/- The other calls of package diag. -/
namespace Go.Proofs.YtlldgfejcjnpkaaGreat
open Go.RowKit
set_option maxHeartbeats 400000
set_option maxRecDepth 100000

theorem diagNew_any (w : World) : Calls Tryz.prog 48 #[] w fun e w' => ∃ a, e = .returned (.pointer (some ⟨a, 0, none⟩)) ∧ DiagIs w' a [] (fun x => w.heap.size ≤ x ∧ x < w'.heap.size) ∧ Below w.heap.size w w' := by
  have hmm := @run_makeMap Tryz.prog
  go_enter Tryz.func48, Tryz.ntmps48
  go_wp2_with fail
  refine (meterNew_any _).mono ?_
  rintro e w' ⟨rfl, rfl⟩
  go_wp2_with fail
  go_ret
  have hsz : (((w.alloc (.cells (meterCells 0 none) 241)).alloc (.map #[] 0)).alloc (.cells #[.pointer (some ⟨w.heap.size, 0, none⟩), .map (some (w.heap.size + 1)), .slice none 0 0] 187)).heap.size = w.heap.size + 3 := by simp
  refine ⟨w.heap.size + 2, rfl, ⟨fun i r h => by simp at h, w.heap.size, w.heap.size + 1, .slice none 0 0, none, [], ⟨?_, ?_, .inl ⟨rfl, rfl⟩, ?_, by simp, (fun c b h => by cases h), fun c h => rfl, by simp, World.ownsRow_nil _ _ _ _, ?_, ?_, ?_, (fun g h => by cases h), (fun p h => by cases h), (fun p h => by cases h)⟩, (fun c b h => by cases h)⟩, ?_⟩
  · exact Blk.new' _ _ _ (by simp)
  · exact ((Blk.new w _ _).alloc _).alloc _
  · exact (Below.heap_alloc _ _ _ (by simp)).trans (by
      show ((w.alloc (.cells (meterCells 0 none) 241)).heap.push (.map #[] 0))[w.heap.size + 1]? = _
      rw [show w.heap.size + 1 = (w.alloc (.cells (meterCells 0 none) 241)).heap.size by simp, Array.getElem?_push_size]
      rfl)
  · rw [hsz]; omega
  · rw [hsz]; omega
  · rw [hsz]; omega
  · exact (((Below.refl _ _).alloc (Nat.le_refl _) _).alloc (by simp) _).alloc (by simp; omega) _


theorem kept_length (L : List Rec) : (kept L).length ≤ 16 := by unfold kept; rw [List.length_drop]; omega

theorem diagNote_nil (c s k : Int) (w : World) : Calls Tryz.prog 56 #[.pointer none, .int .i64 c, .int .u32 s, .int .u32 k] w fun e w' => e = .returned (.tuple #[.int .i64 0, .int .i64 1]) ∧ w' = w := by
  go_enter Tryz.func56, Tryz.ntmps56
  go_wp2_with fail
  go_ret2
  exact ⟨rfl, rfl⟩
theorem diagNote_ok (a : Nat) (s k : Int) (w : World) : Calls Tryz.prog 56 #[.pointer (some ⟨a, 0, none⟩), .int .i64 0, .int .u32 s, .int .u32 k] w fun e w' => e = .returned (.tuple #[.int .i64 0, .int .i64 2]) ∧ w' = w := by
  go_enter Tryz.func56, Tryz.ntmps56
  go_wp2_with fail
  go_ret2
  exact ⟨rfl, rfl⟩
end Go.Proofs.YtlldgfejcjnpkaaGreat
