/- Codes of a diag: the codes that were noted, rising. -/
import Derived.Test.YtialafoofjgchaaDiagB
import Derived.Test.YtialafoofjgchaaShelf
import Derived.Sort.OwnSortedInts
namespace Go.Proofs.Ytialafoofjgchaa
open Go.RowKit Go.Sort
set_option maxHeartbeats 400000
set_option maxRecDepth 100000

theorem errno_info : (Try.prog.info? 26).map (fun i => (i.zero, i.size, i.bytes)) = some (some (.int .i64 0), 1, 8) := by kernel_rfl
theorem nodup_le {α : Type} [DecidableEq α] : ∀ (ks m : List α), ks.Nodup → (∀ k ∈ ks, k ∈ m) → ks.length ≤ m.length
  | [], _, _, _ => Nat.zero_le _
  | k :: ks, m, hn, hs => by
    rw [List.nodup_cons] at hn
    have hk := hs k List.mem_cons_self
    have := nodup_le ks (m.erase k) hn.2 (fun x hx => (List.mem_erase_of_ne (fun e : x = k => hn.1 (e ▸ hx))).2 (hs x (List.mem_cons_of_mem _ hx)))
    rw [List.length_erase_of_mem hk] at this
    have : 0 < m.length := List.length_pos_of_mem hk
    simp only [List.length_cons]
    omega
theorem cnt_pos {c : Int} {L : List Rec} : 0 < cnt c L ↔ c ∈ L.map Rec.code := by
  unfold cnt
  rw [List.length_pos_iff_exists_mem]
  constructor
  · rintro ⟨r, hr⟩
    obtain ⟨h1, h2⟩ := List.mem_filter.1 hr
    exact List.mem_map.2 ⟨r, h1, by simpa using h2⟩
  · intro h
    obtain ⟨r, h1, h2⟩ := List.mem_map.1 h
    exact ⟨r, List.mem_filter.2 ⟨h1, by simpa using h2⟩⟩

/-- The keys in the places seen. -/
def keysAt (cs : List (Int × Nat)) (seen : List Nat) : List Int := seen.filterMap fun i => (cs[i]?).map Prod.fst
theorem keysAt_snoc (cs : List (Int × Nat)) (seen : List Nat) (i : Nat) (p : Int × Nat) (h : cs[i]? = some p) : keysAt cs (seen ++ [i]) = keysAt cs seen ++ [p.1] := by
  simp [keysAt, List.filterMap_append, h]
theorem keysAt_length (cs : List (Int × Nat)) : ∀ (seen : List Nat), (∀ i ∈ seen, i < cs.length) → (keysAt cs seen).length = seen.length
  | [], _ => rfl
  | i :: s, h => by
    have h1 := h i List.mem_cons_self
    have := keysAt_length cs s (fun x hx => h x (List.mem_cons_of_mem _ hx))
    unfold keysAt at this ⊢
    rw [List.filterMap_cons, List.getElem?_eq_getElem h1]
    simp [this]
theorem mem_keysAt (cs : List (Int × Nat)) (seen : List Nat) (c : Int) : c ∈ keysAt cs seen ↔ ∃ i ∈ seen, ∃ p, cs[i]? = some p ∧ p.1 = c := by
  simp [keysAt, List.mem_filterMap]
theorem keysAt_nodup (cs : List (Int × Nat)) (hk : (cs.map Prod.fst).Nodup) : ∀ (seen : List Nat), seen.Nodup → (keysAt cs seen).Nodup
  | [], _ => List.nodup_nil
  | i :: s, h => by
    rw [List.nodup_cons] at h
    have ih := keysAt_nodup cs hk s h.2
    cases hi : cs[i]? with
    | none => simpa [keysAt, List.filterMap_cons, hi] using ih
    | some p =>
      have e : keysAt cs (i :: s) = p.1 :: keysAt cs s := by simp [keysAt, hi]
      rw [e, List.nodup_cons]
      refine ⟨fun hm => ?_, ih⟩
      obtain ⟨j, hj, q, hq, he⟩ := (mem_keysAt cs s p.1).1 hm
      have hne : i ≠ j := fun e => h.1 (e ▸ hj)
      obtain ⟨hil, hi'⟩ := List.getElem?_eq_some_iff.1 hi
      obtain ⟨hjl, hj'⟩ := List.getElem?_eq_some_iff.1 hq
      have := (List.getElem_inj (h₀ := by simpa using hil) (h₁ := by simpa using hjl) hk).1 (show (cs.map Prod.fst)[i]'(by simpa using hil) = (cs.map Prod.fst)[j]'(by simpa using hjl) by simp [hi', hj', he])
      exact hne this

/-- What Codes answers: rising, just the codes that were noted. -/
def IsCodes (ks : List Int) (L : List Rec) : Prop := ks.Pairwise (· < ·) ∧ ∀ c, c ∈ ks ↔ 0 < cnt c L

theorem diagCodes_any (a : Nat) (L : List Rec) (F : Nat → Prop) (w : World) (hD : DiagIs w a L F) (hs : L.length < 1073741823) :
    Calls Try.prog 12 #[.pointer (some ⟨a, 0, none⟩)] w fun e w' => ∃ v ks, e = .returned v ∧ IsCodes ks L ∧ w'.ownsRow w.heap.size 26 1 v ks.length (ks.map (Value.int .i64)) ∧ Below w.heap.size w w' := by
  obtain ⟨_, bm, mp, vl, last, cs, D, hpos⟩ := hD
  have hA0 : ∀ i, w.cell? ⟨a, i, none⟩ = (#[.pointer (some ⟨bm, 0, none⟩), .map (some mp), vl] : Array Value)[i]? := D.self.cell
  have hrange := D.map.run_range (P := Try.prog) Try.underlying55
  have hmap := D.map
  have hkeys := D.keys
  have hcl : cs.length ≤ L.length := by
    have := nodup_le (cs.map Prod.fst) (L.map Rec.code) D.keys (fun c hc => by
      obtain ⟨p, hp, rfl⟩ := List.mem_map.1 hc
      exact cnt_pos.1 (hpos p.1 p.2 (lk_of_mem D.keys hp)))
    simpa using this
  have hall : ∀ c, (∃ (i : Nat) (p : Int × Nat), cs[i]? = some p ∧ p.1 = c) ↔ 0 < cnt c L := by
    intro c
    constructor
    · rintro ⟨i, p, hp, rfl⟩
      exact hpos p.1 p.2 (lk_of_mem D.keys (List.mem_of_getElem? hp))
    · intro h
      cases hl : lk cs c with
      | none => have := D.none_ c hl; omega
      | some b =>
        obtain ⟨i, hi⟩ := List.getElem?_of_mem (lk_mem hl)
        exact ⟨i, _, hi, rfl⟩
  have Hall := Lib.hid hall
  have Hkeys := Lib.hid hkeys
  have Hmap := Lib.hid hmap
  clear hall hkeys hmap hpos D
  obtain ⟨i0, hi0, hz0, hz1, hz2⟩ := info_parts errno_info
  go_enter Try.func12, Try.ntmps12
  go_wp2_with fail
  go_loopg [3] cs.length (fun q v3 wr => ∃ (seen : Array Nat), seen.size + q = cs.length ∧ Hid (seen.toList.Nodup ∧ (∀ i ∈ seen.toList, i < cs.length)) ∧ IterAt wr w.heap.size mp cs.length seen ∧
      wr.ownsRow (w.heap.size + 1) 26 1 v3 seen.size ((keysAt cs seen.toList).map (Value.int .i64)) ∧ Below w.heap.size w wr ∧ w.heap.size < wr.heap.size)
  case atStart =>
    refine ⟨#[], by simp, Lib.hid ⟨by simp, by simp⟩, heap_alloc_new w _, World.ownsRow_nil _ _ _ _, (Below.refl _ _).alloc (Nat.le_refl _) _, by simp⟩
  case round =>
    obtain ⟨seen, hq, HA, hit, hown, hb, hlt⟩ := hrel
    obtain ⟨Wr, rfl⟩ : ∃ W : World, W = wr := ⟨_, rfl⟩
    obtain ⟨A3, c3, rfl⟩ := own_slice hown
    have hmw : MapIs Wr mp cs := (hb.block mp Hmap.out.lt).trans Hmap.out
    rcases hmw.run_next (P := Try.prog) hit 0 with ⟨hdone, hrun⟩ | ⟨i, p, w2, hi, hns, hrun, hit2, hk2, hz2, hm2, hen⟩
    · have hrun' : ∀ ty, (Instr.next (.pointer (some ⟨w.heap.size, 0, none⟩)) false ty).run Try.prog Wr = .ok (.tuple #[.bool false]) Wr := fun _ => hrun
      have Hd := Lib.hid hdone
      obtain ⟨hnd, hin⟩ := HA.out
      have hkl := keysAt_length cs seen.toList hin
      have hcodes : ∀ c, c ∈ keysAt cs seen.toList ↔ 0 < cnt c L := by
        intro c
        rw [mem_keysAt, ← Hall.out c]
        constructor
        · rintro ⟨i, _, p, hp, he⟩
          exact ⟨i, p, hp, he⟩
        · rintro ⟨i, p, hp, he⟩
          exact ⟨i, hdone i (List.getElem?_eq_some_iff.1 hp).1, p, hp, he⟩
      have Hc := Lib.hid hcodes
      have Hnd := Lib.hid (keysAt_nodup cs Hkeys.out _ hnd)
      have Hkl := Lib.hid (show seen.size = (keysAt cs seen.toList).length by rw [hkl]; simp)
      have Hown := Lib.hid hown
      have hsz1 : seen.size ≤ cs.length := by omega
      clear hrun hdone hq hcodes hkl hnd hin hown hmw hit HA
      go_wp2_with fail
      have fin : ∀ (v : Value) (w3 : World), w3.ownsRow (w.heap.size + 1) 26 1 v seen.size (((keysAt cs seen.toList).mergeSort fun x y => decide (x ≤ y)).map (Value.int .i64)) → Below w.heap.size w w3 →
          ∃ ks, IsCodes ks L ∧ w3.ownsRow w.heap.size 26 1 v ks.length (ks.map (Value.int .i64)) ∧ Below w.heap.size w w3 := by
        intro v w3 h1 h2
        refine ⟨(keysAt cs seen.toList).mergeSort fun x y => decide (x ≤ y), ⟨?_, fun c => ?_⟩, ?_, h2⟩
        · have hs1 := List.pairwise_mergeSort (le := fun x y : Int => decide (x ≤ y)) (fun a b c h1 h2 => by simp at *; omega) (fun a b => by simp; omega) (keysAt cs seen.toList)
          have hs2 : ((keysAt cs seen.toList).mergeSort fun x y => decide (x ≤ y)).Nodup := (List.mergeSort_perm _ _).nodup_iff.2 Hnd.out
          exact (hs1.and hs2).imp (fun h => by simp at h; omega)
        · rw [List.mem_mergeSort]; exact Hc.out c
        · rw [List.length_mergeSort, ← Hkl.out]; exact own_base h1 (by omega)
      rcases Hown.out.2 with ⟨hnil, h0⟩ | ⟨g, cap, cur, hv, hg, hh, h1, h2, h3, h4⟩
      · rw [h0]
        refine (AnyM.slices_Sort_int_none Try.sortErrnoLays A3 c3 Wr).mono ?_
        rintro e w' ⟨rfl, rfl⟩
        have hk0 : keysAt cs seen.toList = [] := List.eq_nil_of_length_eq_zero (by rw [← Hkl.out]; exact h0)
        obtain ⟨ks, f1, f2, f3⟩ := fin (.slice A3 0 c3) _ (by rw [hk0]; have := Hown.out; rw [hk0, h0] at this; rw [h0]; simpa using this) hb
        have F1 := Lib.hid f1
        have F2 := Lib.hid f2
        clear fin f1 f2
        go_wp2_with fail
        go_ret
        exact ⟨_, ks, rfl, F1.out, F2.out, hb⟩
      · injection hv with hv1 hv2 hv3
        subst hv1
        subst hv3
        have hH : Go.Sort.Holds (Value.int .i64) Wr g 0 (keysAt cs seen.toList).toArray := holds_of_blockI hh (by rw [← Hkl.out]; simpa using h4)
        have hglt : g < Wr.heap.size := obj_lt hh
        have hso := fun n os => ownsRow_sortedI (base := w.heap.size + 1) (n := n) (os := os) (ss := keysAt cs seen.toList) (ts := (keysAt cs seen.toList).mergeSort fun x y => decide (x ≤ y)) (List.length_mergeSort _) hg hh (by rw [← Hkl.out]; exact h1) h2 (by simpa using h3)
        rw [Hkl.out]
        refine (AnyM.slices_Sort_int Try.sortErrnoLays g 0 c3 (keysAt cs seen.toList) Wr hH hglt (by rw [← Hkl.out]; omega)).mono ?_
        rintro e w' ⟨rfl, n, os, rfl⟩
        have hb3 : Below w.heap.size w (Go.Sort.grow (Go.Sort.putRow (Value.int .i64) (Go.Sort.ahead Wr n) g 0 ((keysAt cs seen.toList).mergeSort fun x y => decide (x ≤ y)).toArray) os) :=
          hb.grown (grownBy_sortedI _) hb.size (fun k hk => by simp at hk; omega)
        obtain ⟨ks, f1, f2, f3⟩ := fin (.slice (some ⟨g, 0, none⟩) (keysAt cs seen.toList).length c3) _ (by have := hso n os; rw [← Hkl.out] at this; rw [← Hkl.out]; exact this) hb3
        have F1 := Lib.hid f1
        have F2 := Lib.hid f2
        have F3 := Lib.hid f3
        clear fin f1 f2 f3 hso hb3 hH hh
        generalize Go.Sort.grow (Go.Sort.putRow (Value.int .i64) (Go.Sort.ahead Wr n) g 0 ((keysAt cs seen.toList).mergeSort fun x y => decide (x ≤ y)).toArray) os = w5 at F2 F3 ⊢
        go_wp2_with fail
        go_ret
        exact ⟨_, ks, rfl, F1.out, F2.out, F3.out⟩
    · have hrun' : ∀ ty, (Instr.next (.pointer (some ⟨w.heap.size, 0, none⟩)) false ty).run Try.prog Wr = .ok (.tuple #[.bool true, .int .i64 p.1, .pointer (some ⟨p.2, 0, none⟩)]) w2 := fun _ => hrun
      have hw2 : Below w.heap.size w w2 := hb.trans (hk2.below (B := w.heap.size) (by omega) (fun b h => by omega))
      have hown2 := ownsRow_keep hown hk2 (fun g h => by have := (hown.lt g h).1; omega)
      have hil : i < cs.length := (List.getElem?_eq_some_iff.1 hi).1
      have Hi := Lib.hid hi
      have Hq := Lib.hid hq
      have Hsz := Lib.hid hz2
      have hlt2 : w.heap.size < w2.heap.size := by omega
      have hsl : seen.size < cs.length := by
        obtain ⟨hn, hs'⟩ := HA.out
        have := nodup_le (i :: seen.toList) (List.range cs.length) (List.nodup_cons.2 ⟨hns, hn⟩) (fun x hx => by
          rw [List.mem_range]
          rcases List.mem_cons.1 hx with rfl | h
          · exact hil
          · exact hs' x h)
        simp at this
        omega
      have Hns := Lib.hid hns
      clear hrun hi hq hz2 hns hmw hit hown hb hlt
      go_wp2_with (at_builtin; go_must (refine wpList_append_any _ rfl (.tmp 16) (.tmp 18) _ rfl (w.heap.size + 1) 26 i0 _ 1 8 Try.underlying35 hi0 hz0 hz1 hz2 rfl (by omega) (.slice A3 seen.size c3) seen.size _ rfl (hown2.alloc _) (w2.heap.size + 1) (some ⟨w2.heap.size, 0, none⟩) 1 1 _ rfl (Reads.of_blk (Blk.new w2 _ _) (by omega) rfl) (by simp [Value.oneCell']) (by unfold maxLen; omega) (by omega) (by simp; omega) ?_); intro v4 w4 hown4 hg4 hat4)
      go_roundg (cs.length - (seen.size + 1))
      case measure => have := Hq.out; omega
      case rel =>
        have hq := Hq.out
        obtain ⟨hnd, hin⟩ := HA.out
        refine ⟨seen.push i, by simp; omega, Lib.hid ⟨?_, ?_⟩, ?_, ?_, ?_, ?_⟩
        · rw [Array.toList_push, List.nodup_append]
          exact ⟨hnd, by simp, fun x hx y hy => by simp only [List.mem_singleton] at hy; subst hy; intro e; exact Hns.out (e ▸ hx)⟩
        · intro x hx
          rw [Array.toList_push, List.mem_append] at hx
          rcases hx with h | h
          · exact hin x h
          · simp only [List.mem_singleton] at h; subst h; exact hil
        · exact Keep.obj (S := fun k => (Value.slice A3 seen.size c3).ownBlock = some k) (((Keep.refl _ w2).alloc _).grown hg4 (fun k h _ => h)) hit2 (fun h => by have := (hown2.lt _ h).1; omega)
        · rw [Array.toList_push, keysAt_snoc _ _ _ _ Hi.out, List.map_append, Array.size_push]
          exact hown4
        · exact (hw2.alloc hw2.size _).grown hg4 (by have := hw2.size; simp; omega) (fun k h => by have := (hown2.lt _ h).1; omega)
        · have := hg4.size
          simp at this
          omega
end Go.Proofs.Ytialafoofjgchaa
