/- The contract of mux.Tick. -/
import Derived.Test.YtlldgfejcjnpkaaGreatCMuxRecv
set_option linter.unusedVariables false
namespace Go.Proofs.YtlldgfejcjnpkaaGreat
open Go.RowKit
set_option maxHeartbeats 10000000
set_option maxRecDepth 100000

theorem dtick_p (m : DevM) (n : Int) : (m.tick n).1.p = m.p := by
  unfold DevM.tick
  split
  · rfl
  split
  · rfl
  · simp only
    split <;> rfl
def PRow.tick (n : Int) (r : PRow) : PRow := { r with m := (r.m.tick n).1 }
theorem tick_code (n : Int) (r : PRow) : (r.tick n).code = r.code := by simp [PRow.tick, PRow.code, dtick_p]
theorem tick_port (n : Int) (r : PRow) : (r.tick n).port = r.port := by simp only [PRow.port, tick_code]; rfl
theorem paint_none {κ : Nat → Option Nat} {t y : Nat} {w w' : World} (h : κ y = none) (hlt : y < w.heap.size) : paint κ t w w' y = none := by
  unfold paint
  rw [if_neg (by omega), h]
theorem nodup_lt {α : Type} [DecidableEq α] : ∀ (ks m : List α), ks.Nodup → (∀ k ∈ ks, k ∈ m) → ks.length ≤ m.length
  | [], _, _, _ => Nat.zero_le _
  | k :: ks, m, hn, hs => by
    rw [List.nodup_cons] at hn
    have hk := hs k List.mem_cons_self
    have := nodup_lt ks (m.erase k) hn.2 (fun x hx => (List.mem_erase_of_ne (fun e : x = k => hn.1 (e ▸ hx))).2 (hs x (List.mem_cons_of_mem _ hx)))
    rw [List.length_erase_of_mem hk] at this
    have : 0 < m.length := List.length_pos_of_mem hk
    simp only [List.length_cons]
    omega
/-- Those in the places seen have ticked. -/
def Ticked (n : Int) (R R' : List PRow) (seen : List Nat) : Prop := R'.length = R.length ∧ ∀ i, R'[i]? = if i ∈ seen then (R[i]?).map (PRow.tick n) else R[i]?
theorem Ticked.port {n : Int} {R R' : List PRow} {seen : List Nat} (h : Ticked n R R' seen) : R'.map PRow.port = R.map PRow.port := by
  apply List.ext_getElem?
  intro i
  rw [List.getElem?_map, List.getElem?_map, h.2 i]
  split
  · cases R[i]? with
    | none => rfl
    | some r => simp [tick_port]
  · rfl
theorem Ticked.next {n : Int} {R R' : List PRow} {seen : List Nat} (h : Ticked n R R' seen) {i : Nat} {r : PRow} (hr : R[i]? = some r) (hs : i ∉ seen) : R'[i]? = some r ∧ Ticked n R (R'.set i (r.tick n)) (seen ++ [i]) := by
  have hi : R'[i]? = some r := by rw [h.2 i, if_neg hs, hr]
  refine ⟨hi, by rw [List.length_set]; exact h.1, fun j => ?_⟩
  rw [List.getElem?_set]
  by_cases e : i = j
  · subst e
    rw [if_pos rfl, if_pos (List.getElem?_eq_some_iff.1 hi).1, if_pos (by simp), hr]
    rfl
  · rw [if_neg e, h.2 j]
    by_cases hj : j ∈ seen
    · rw [if_pos hj, if_pos (by simp [hj])]
    · rw [if_neg hj, if_neg (by simp only [List.mem_append, List.mem_singleton]; exact fun h => h.elim hj (fun e' => e e'.symm))]
theorem Ticked.done {n : Int} {R R' : List PRow} {seen : List Nat} (h : Ticked n R R' seen) (hall : ∀ i, i < R.length → i ∈ seen) : R' = R.map (PRow.tick n) := by
  apply List.ext_getElem?
  intro i
  rw [List.getElem?_map, h.2 i]
  split
  · rfl
  · rename_i hn
    have : R.length ≤ i := by
      rcases Nat.lt_or_ge i R.length with h1 | h1
      · exact absurd (hall i h1) hn
      · exact h1
    rw [List.getElem?_eq_none this]
    rfl
theorem muxTick_any (B x : Nat) (R : List PRow) (lost : Int) (F : Nat → Prop) (n : Int) (w : World) (hM : MuxIs B w x R lost F) (hn : 0 ≤ n) (hlen : ∀ r ∈ R, r.m.log.length < 1073741800) :
    Calls Tryz.prog 32 #[.pointer (some ⟨x, 0, none⟩), .int .i64 n] w fun e w' => e = .returned (.int .i64 0) ∧ MuxTo B w x (R.map (PRow.tick n)) lost F w' := by
  obtain ⟨⟨κ, mp, bl, hM, hF⟩, hlo⟩ := hM
  have hcx := hM.blk.cell
  have hrange := hM.map.run_range (P := Tryz.prog) Tryz.underlying154
  rw [List.length_map] at hrange
  have hn0 : ¬ n < 0 := by omega
  have Hlen := Lib.hid hlen
  have HM := Lib.hid hM
  have HL := Lib.hid hlo
  have HF := Lib.hid hF
  clear hM hlen hlo hF
  go_enter Tryz.func32, Tryz.ntmps32
  go_wp2_with fail
  go_loopg [] R.length (fun q wr => ∃ (seen : Array Nat) (R' : List PRow) (κ' : Nat → Option Nat), seen.size + q = R.length ∧ Hid (seen.toList.Nodup ∧ (∀ i ∈ seen.toList, i < R.length) ∧ Ticked n R R' seen.toList) ∧ MapG.IterAt wr w.heap.size mp R.length seen ∧
      Hid (MuxAt B wr x R' lost κ' mp bl ∧ κ' w.heap.size = none ∧ w.heap.size < wr.heap.size ∧ (∀ y, κ' y ≠ none → grow F w wr y) ∧ Keep F w wr))
  case atStart =>
    have hb := (Below.refl w.heap.size w).alloc (Nat.le_refl _) (.mapIter (some mp) R.length #[] R.length)
    refine ⟨#[], R, κ, by simp, Lib.hid ⟨by simp, by simp, rfl, fun i => by simp⟩, heap_alloc_new w _, Lib.hid ⟨HM.out.below hb, ?_, by simp, fun y hy => .inl (HF.out y hy), Keep.of_below hb⟩⟩
    cases hk : κ w.heap.size with
    | none => rfl
    | some t => have := (HM.out.lo w.heap.size (by rw [hk]; simp)).2; omega
  case round =>
    obtain ⟨seen, R', κ', hq, HA, hit, HW⟩ := hrel
    obtain ⟨Wr, rfl⟩ : ∃ W : World, W = wr := ⟨_, rfl⟩
    obtain ⟨hMA, hki, hlt, hsub, hkeep⟩ := HW.out
    have hmw : MapG.MapIs .u32 Wr mp (R.map PRow.port) := by have h1 := hMA.map; rw [HA.out.2.2.port] at h1; exact h1
    have Hmap := Lib.hid hMA
    rcases hmw.run_next (P := Tryz.prog) (by rw [List.length_map]; exact hit) 0 with ⟨hdone, hrun⟩ | ⟨i, p, w2, hi, hns, hrun, hit2, hk2, hz2, hm2, hen⟩
    · have hrun' : ∀ ty, (Instr.next (.pointer (some ⟨w.heap.size, 0, none⟩)) false ty).run Tryz.prog Wr = .ok (.tuple #[.bool false]) Wr := fun _ => hrun
      have hR := HA.out.2.2.done (fun j hj => hdone j (by simpa using hj))
      rw [hR] at hMA
      have Hres := Lib.hid (show MuxTo B w x (R.map (PRow.tick n)) lost F Wr from ⟨⟨⟨κ', mp, bl, hMA, hsub⟩, fun y hy => by
        have hB := HM.out.Ble
        rcases hy with hy | hy
        · have := HL.out y hy; omega
        · omega⟩, hkeep⟩)
      clear hmw hrun hdone hR hMA hki hlt hsub hkeep hit HW Hmap
      go_wp2_with fail
      go_ret
      exact ⟨rfl, Hres.out⟩
    · obtain ⟨r, hr, rfl⟩ : ∃ r, R[i]? = some r ∧ r.port = p := by
        rw [List.getElem?_map] at hi
        cases hri : R[i]? with
        | none => rw [hri] at hi; cases hi
        | some r => rw [hri] at hi; exact ⟨r, rfl, Option.some.inj hi⟩
      obtain ⟨hi', htk⟩ := HA.out.2.2.next hr hns
      have hrun' : ∀ ty, (Instr.next (.pointer (some ⟨w.heap.size, 0, none⟩)) false ty).run Tryz.prog Wr = .ok (.tuple #[.bool true, .int .u32 r.code, .agg #[.pointer (some ⟨r.a, 0, none⟩), .pointer (some ⟨r.s, 0, none⟩)]]) w2 := fun _ => hrun
      have hen' : (Instr.entry (.pointer (some ⟨w.heap.size, 0, none⟩))).run Tryz.prog w2 = .ok (.tuple #[.int .u32 r.code, .agg #[.pointer (some ⟨r.a, 0, none⟩), .pointer (some ⟨r.s, 0, none⟩)]]) w2 := hen
      have hM2 := hMA.keepS hk2 (fun y hy e => hy (e ▸ hki))
      have hbP := (Below.refl w2.heap.size w2).alloc (Nat.le_refl _) (.cells (portCells r.a r.s) 160)
      have hP := Blk.new w2 160 (portCells r.a r.s)
      have hM3 := hM2.below hbP
      have hit3 : MapG.IterAt (w2.alloc (.cells (portCells r.a r.s) 160)) w.heap.size mp R.length (seen.push i) := by
        have h1 := hit2
        rw [List.length_map] at h1
        exact (hbP.block w.heap.size (by omega)).trans h1
      have hcall := devTick_any B r.a r.ma r.m (Of κ' (2 * i + 11)) n _ (hM3.dev i r hi').1 (hM3.dev i r hi').2 (Hlen.out r (List.mem_of_getElem? hr))
      have hz3 : w.heap.size < w2.heap.size := by omega
      have Hq := Lib.hid hq
      have hkp2 : Keep F w w2 := hkeep.andThen hk2 (fun y hl e => by omega)
      have Hz2 := Lib.hid hz2
      have Hsub := Lib.hid hsub
      have Hki := Lib.hid hki
      have Hns := Lib.hid hns
      have hs3 : (w2.alloc (.cells (portCells r.a r.s) 160)).heap.size = w2.heap.size + 1 := by simp
      have hin := (hMA.dev i r hi').2.tick n
      clear hrun hen hi hq hz2 hns hmw hit hit2 hm2 hMA hki hlt hsub hkeep HW hM2 hk2
      unfold portCells at hP hM3 hit3 hcall hs3 hbP
      go_upto_region 8 with fail
      obtain ⟨gP, HgP⟩ : ∃ g, Hid (g = w2.heap.size) := ⟨_, Lib.hid rfl⟩
      rw [← HgP.out] at hP ⊢
      generalize w2.alloc (.cells #[.pointer (some ⟨r.a, 0, none⟩), .pointer (some ⟨r.s, 0, none⟩)] 160) = W3 at *
      have hcP := hP.cell
      have Hs3 := Lib.hid hs3
      clear hs3
      go_wp2_with fail
      refine hcall.mono ?_
      rintro e w4 ⟨rfl, t⟩
      have hM4 := hM3.onDev hi' t hin (dtick_p r.m n)
      have hs4 := t.keep.size
      have hit4 : MapG.IterAt w4 w.heap.size mp R.length (seen.push i) := (t.keep.block w.heap.size (by have := Hs3.out; omega) (fun h => by rw [show κ' w.heap.size = _ from h] at Hki; exact absurd Hki.out (by simp))).trans hit3
      have hkp4 : Keep F w w4 := (hkp2.andThen (Keep.of_below (S := fun _ => False) hbP) (fun y _ h => h.elim)).andThen t.keep (fun y hl hy => by
        rcases Hsub.out y (by rw [show κ' y = _ from hy]; simp) with h | h
        · exact h
        · omega)
      have Hsl : Hid (seen.size < R.length) := Lib.hid (by
        have hil := (List.getElem?_eq_some_iff.1 hr).1
        obtain ⟨hnd, hin2, _⟩ := HA.out
        have := nodup_lt (i :: seen.toList) (List.range R.length) (List.nodup_cons.2 ⟨Hns.out, hnd⟩) (fun y hy => by
          rw [List.mem_range]
          rcases List.mem_cons.1 hy with rfl | h
          · exact hil
          · exact hin2 y h)
        simp at this
        omega)
      have Hit4 := Lib.hid hit4
      clear hit3 hit4 hcP hP hcall
      go_wp2_with fail
      go_roundg (R.length - (seen.size + 1))
      case measure => have h1 := Hq.out; have h2 := Hsl.out; omega
      case rel =>
        have hq := Hq.out
        have hil := (List.getElem?_eq_some_iff.1 hr).1
        obtain ⟨hnd, hin2, _⟩ := HA.out
        have hsl := Hsl.out
        refine ⟨seen.push i, _, _, by simp; omega, Lib.hid ⟨?_, ?_, by rw [Array.toList_push]; exact htk⟩, Hit4.out, Lib.hid ⟨hM4, paint_none Hki.out (by have := Hs3.out; omega), by have := Hs3.out; omega, ?_, hkp4⟩⟩
        · rw [Array.toList_push, List.nodup_append]
          exact ⟨hnd, by simp, fun y hy z hz => by simp only [List.mem_singleton] at hz; subst hz; intro e; exact Hns.out (e ▸ hy)⟩
        · intro y hy
          rw [Array.toList_push, List.mem_append] at hy
          rcases hy with h | h
          · exact hin2 y h
          · simp only [List.mem_singleton] at h; subst h; exact hil
        · intro y hy
          rcases paint_sub (F := grow F w Wr) Hsub.out y hy with h | h
          · rcases h with h | h
            · exact .inl h
            · exact .inr ⟨h.1, by have := Hs3.out; have := Hz2.out; omega⟩
          · exact .inr ⟨by have := Hs3.out; omega, h.2⟩

end Go.Proofs.YtlldgfejcjnpkaaGreat
