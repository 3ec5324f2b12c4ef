/- The contracts of mux.Codes and mux.On. -/
import Derived.Test.YtlldgfejcjnpkaaGreatCMuxTick
set_option linter.unusedVariables false
namespace Go.Proofs.YtlldgfejcjnpkaaGreat
open Go.RowKit
set_option maxHeartbeats 10000000
set_option maxRecDepth 100000

def codesAt (R : List PRow) (seen : List Nat) : List Int := seen.filterMap fun i => (R[i]?).map PRow.code
theorem codesAt_snoc {R : List PRow} {i : Nat} {r : PRow} (h : R[i]? = some r) (seen : List Nat) : codesAt R (seen ++ [i]) = codesAt R seen ++ [r.code] := by
  simp [codesAt, List.filterMap_append, h]
theorem codesAt_range (R : List PRow) : ∀ k, k ≤ R.length → codesAt R (List.range k) = (R.take k).map PRow.code
  | 0, _ => by simp [codesAt]
  | k + 1, h => by
    have hk : R[k]? = some (R[k]'(by omega)) := List.getElem?_eq_getElem _
    rw [List.range_succ, codesAt_snoc hk, codesAt_range R k (by omega), List.take_add_one, hk, List.map_append]
    rfl
theorem codesAt_perm {R : List PRow} {seen : List Nat} (hn : seen.Nodup) (hlt : ∀ i ∈ seen, i < R.length) (hall : ∀ i, i < R.length → i ∈ seen) : (codesAt R seen).Perm (R.map PRow.code) := by
  have hp : seen.Perm (List.range R.length) := (List.perm_ext_iff_of_nodup hn List.nodup_range).2 (fun i => by rw [List.mem_range]; exact ⟨hlt i, hall i⟩)
  have h1 := hp.filterMap (fun i => (R[i]?).map PRow.code)
  have h2 := codesAt_range R R.length (Nat.le_refl _)
  rw [List.take_length] at h2
  unfold codesAt at h2 ⊢
  rw [h2] at h1
  exact h1
theorem codesAt_length {R : List PRow} : ∀ {seen : List Nat}, (∀ i ∈ seen, i < R.length) → (codesAt R seen).length = seen.length
  | [], _ => rfl
  | i :: s, h => by
    have h1 := h i List.mem_cons_self
    have ih := codesAt_length (R := R) (seen := s) (fun x hx => h x (List.mem_cons_of_mem _ hx))
    unfold codesAt at ih ⊢
    rw [List.filterMap_cons, List.getElem?_eq_getElem h1]
    simp [ih]
theorem sortI_perm_eq {a b : List Int} (h : a.Perm b) : sortI a = sortI b := sortI_of ((sortI_perm a).trans h) (sortI_sorted a)
theorem u32_info : (Tryz.prog.info? 34).map (fun i => (i.zero, i.size, i.bytes)) = some (some (.int .u32 0), 1, 4) := by kernel_rfl
theorem muxCodes_any (B x : Nat) (R : List PRow) (lost : Int) (F : Nat → Prop) (w : World) (hM : MuxIs B w x R lost F) (h8 : R.length ≤ 8) :
    Calls Tryz.prog 28 #[.pointer (some ⟨x, 0, none⟩)] w fun e w' => ∃ v, e = .returned v ∧ w'.ownsRow w.heap.size 34 1 v R.length (u32c (sortI (R.map PRow.code))) ∧ Below w.heap.size w w' := by
  obtain ⟨⟨κ, mp, bl, hM, hF⟩, hlo⟩ := hM
  have hcx := hM.blk.cell
  have hrange := hM.map.run_range (P := Tryz.prog) Tryz.underlying154
  rw [List.length_map] at hrange
  have Hmap := Lib.hid hM.map
  clear hM hF hlo
  obtain ⟨i0, hi0, hz0, hz1, hz2⟩ := info_parts u32_info
  go_enter Tryz.func28, Tryz.ntmps28
  go_wp2_with fail
  go_loopg [3] R.length (fun q v3 wr => ∃ (seen : Array Nat), seen.size + q = R.length ∧ Hid (seen.toList.Nodup ∧ (∀ i ∈ seen.toList, i < R.length)) ∧ MapG.IterAt wr w.heap.size mp R.length seen ∧
      wr.ownsRow (w.heap.size + 1) 34 1 v3 seen.size (u32c (codesAt R seen.toList)) ∧ Below w.heap.size w wr ∧ w.heap.size < wr.heap.size)
  case atStart =>
    refine ⟨#[], by simp, Lib.hid ⟨by simp, by simp⟩, heap_alloc_new w _, World.ownsRow_nil _ _ _ _, (Below.refl _ _).alloc (Nat.le_refl _) _, by simp⟩
  case round =>
    obtain ⟨seen, hq, HA, hit, hown, hb, hlt⟩ := hrel
    obtain ⟨Wr, rfl⟩ : ∃ W : World, W = wr := ⟨_, rfl⟩
    obtain ⟨A3, c3, rfl⟩ := own_slice hown
    have hmw : MapG.MapIs .u32 Wr mp (R.map PRow.port) := (hb.block mp Hmap.out.lt).trans Hmap.out
    rcases hmw.run_next (P := Tryz.prog) (by rw [List.length_map]; exact hit) 0 with ⟨hdone, hrun⟩ | ⟨i, p, w2, hi, hns, hrun, hit2, hk2, hz2', hm2, hen⟩
    · have hrun' : ∀ ty, (Instr.next (.pointer (some ⟨w.heap.size, 0, none⟩)) false ty).run Tryz.prog Wr = .ok (.tuple #[.bool false]) Wr := fun _ => hrun
      obtain ⟨hnd, hin⟩ := HA.out
      have hpm := codesAt_perm hnd hin (fun j hj => hdone j (by simpa using hj))
      have hsl : seen.size = R.length := by have := hpm.length_eq; rw [codesAt_length hin, List.length_map] at this; simpa using this
      have hcl : (codesAt R seen.toList).length = R.length := by rw [hpm.length_eq, List.length_map]
      rw [hsl] at hown
      have hsort := sort32_any (.slice A3 R.length c3) (w.heap.size + 1) (codesAt R seen.toList) Wr (by omega) (by rw [hcl]; exact hown)
      rw [hcl, sortI_perm_eq hpm] at hsort
      rw [hsl]
      have Hlt := fun y hy => (hown.lt y hy).1
      clear hrun hdone hq hnd hin hmw hit HA hpm hsl hcl hown
      go_wp2_with fail
      refine hsort.mono ?_
      rintro e w3 ⟨rfl, h1, h2, h3⟩
      have H1 := Lib.hid (own_base h1 (show w.heap.size ≤ w.heap.size + 1 by omega))
      have H2 := Lib.hid (hb.trans (h2.below (B := w.heap.size) (by omega) (fun y hy => by have := Hlt y hy; omega)))
      clear h1 h2 hsort
      go_wp2_with fail
      go_ret
      exact ⟨_, rfl, H1.out, H2.out⟩
    · obtain ⟨r, hr, rfl⟩ : ∃ r, R[i]? = some r ∧ r.port = p := by
        rw [List.getElem?_map] at hi
        cases hri : R[i]? with
        | none => rw [hri] at hi; cases hi
        | some r => rw [hri] at hi; exact ⟨r, rfl, Option.some.inj hi⟩
      have hrun' : ∀ ty, (Instr.next (.pointer (some ⟨w.heap.size, 0, none⟩)) false ty).run Tryz.prog Wr = .ok (.tuple #[.bool true, .int .u32 r.code, .agg #[.pointer (some ⟨r.a, 0, none⟩), .pointer (some ⟨r.s, 0, none⟩)]]) w2 := fun _ => hrun
      have hen' : (Instr.entry (.pointer (some ⟨w.heap.size, 0, none⟩))).run Tryz.prog w2 = .ok (.tuple #[.int .u32 r.code, .agg #[.pointer (some ⟨r.a, 0, none⟩), .pointer (some ⟨r.s, 0, none⟩)]]) w2 := hen
      have hw2 : Below w.heap.size w w2 := hb.trans (hk2.below (B := w.heap.size) (by omega) (fun b h => by omega))
      have hown2 := ownsRow_keep hown hk2 (fun g h => by have := (hown.lt g h).1; omega)
      have hil : i < R.length := (List.getElem?_eq_some_iff.1 hr).1
      have Hr := Lib.hid hr
      have Hq := Lib.hid hq
      have hlt2 : w.heap.size < w2.heap.size := by omega
      have hsl : seen.size < R.length := by
        obtain ⟨hn, hs'⟩ := HA.out
        have := nodup_lt (i :: seen.toList) (List.range R.length) (List.nodup_cons.2 ⟨hns, hn⟩) (fun x hx => by
          rw [List.mem_range]
          rcases List.mem_cons.1 hx with rfl | h
          · exact hil
          · exact hs' x h)
        simp at this
        omega
      have Hns := Lib.hid hns
      have Hit2 := Lib.hid hit2
      clear hrun hen hi hr hq hz2' hns hmw hit hit2 hown hb hlt hm2
      go_wp2_with (at_builtin; go_must (refine wpList_append_any _ rfl (.tmp 16) (.tmp 18) _ rfl (w.heap.size + 1) 34 i0 _ 1 4 Tryz.underlying68 hi0 hz0 hz1 hz2 rfl (by omega) (.slice A3 seen.size c3) seen.size _ rfl (hown2.alloc _) (w2.heap.size + 1) (some ⟨w2.heap.size, 0, none⟩) 1 1 _ rfl (Reads.of_blk (Blk.new w2 _ _) (by omega) rfl) (by simp [Value.oneCell']) (by unfold maxLen; omega) (by omega) (by simp; omega) ?_; intro v4 w4 hown4 hg4 hat4; obtain ⟨A4, c4, rfl⟩ := own_slice hown4))
      go_roundg (R.length - (seen.size + 1))
      case measure => have := Hq.out; omega
      case rel =>
        have hq := Hq.out
        obtain ⟨hnd, hin⟩ := HA.out
        have hit3 := Hit2.out
        rw [List.length_map] at hit3
        refine ⟨seen.push i, by simp; omega, Lib.hid ⟨?_, ?_⟩, ?_, ?_, ?_, ?_⟩
        · rw [Array.toList_push, List.nodup_append]
          exact ⟨hnd, by simp, fun y hy z hz => by simp only [List.mem_singleton] at hz; subst hz; intro e; exact Hns.out (e ▸ hy)⟩
        · intro y hy
          rw [Array.toList_push, List.mem_append] at hy
          rcases hy with h | h
          · exact hin y h
          · simp only [List.mem_singleton] at h; subst h; exact hil
        · exact Keep.obj (S := fun k => (Value.slice A3 seen.size c3).ownBlock = some k) (((Keep.refl _ w2).alloc _).grown hg4 (fun k h _ => h)) hit3 (fun h => by have := (hown2.lt _ h).1; omega)
        · rw [Array.toList_push, codesAt_snoc Hr.out, u32c, List.map_append, Array.size_push]
          exact hown4
        · exact (hw2.alloc hw2.size _).grown hg4 (by have := hw2.size; simp; omega) (fun k h => by have := (hown2.lt _ h).1; omega)
        · have := hg4.size
          simp at this
          omega
theorem filter_codes (R : List PRow) (p : Int → Bool) : (sortI (R.map PRow.code)).filter p = sortI ((R.map PRow.code).filter p) :=
  sortI_of ((sortI_perm _).filter p) ((sortI_sorted _).filter p)
/-- Is the output of the row with this code on? -/
def onAt (R : List PRow) (c : Int) : Bool := R.any fun r => r.code == c && r.m.see.on
theorem onAt_row {R : List PRow} (hn : (R.map PRow.code).Nodup) {i : Nat} {r : PRow} (hr : R[i]? = some r) : onAt R r.code = r.m.see.on := by
  unfold onAt
  cases ho : r.m.see.on with
  | true => exact List.any_eq_true.2 ⟨r, List.mem_of_getElem? hr, by simp [ho]⟩
  | false =>
    rw [Bool.eq_false_iff]
    intro h
    obtain ⟨q, hq, h2⟩ := List.any_eq_true.1 h
    obtain ⟨j, hj⟩ := List.getElem?_of_mem hq
    have hcode : q.code = r.code := by simp at h2; exact h2.1
    have hjl := (List.getElem?_eq_some_iff.1 hj).1
    have hil := (List.getElem?_eq_some_iff.1 hr).1
    have e : j = i := (List.getElem_inj (h₀ := by simpa using hjl) (h₁ := by simpa using hil) hn).1 (show (R.map PRow.code)[j]'(by simpa using hjl) = (R.map PRow.code)[i]'(by simpa using hil) by
      simp [(List.getElem?_eq_some_iff.1 hj).2, (List.getElem?_eq_some_iff.1 hr).2, hcode])
    subst e
    rw [hj] at hr
    injection hr with hr
    subst hr
    simp [ho] at h2
theorem reads_u32 {w : World} {B : Nat} {A : Option Addr} {n : Nat} {l : List Int} (h : Reads w B 1 A n (u32c l)) {k : Nat} (hk : k < n) {r : Int} (hr : l[k]? = some r) : ∃ ad, A = some ad ∧ w.cell? (ad.add k) = some (.int .u32 r) := by
  obtain ⟨ad, u, h1, _, h3, h4⟩ := h.at_ hk
  refine ⟨ad, h1, ?_⟩
  rw [h4, ← h3, u32c, List.getElem?_map, hr]
  rfl
theorem end_on (a0 a1 a2 a3 a4 a5 a6 a7 a8 : Value) (W : World) : (Instr.field 57 (.agg #[a0, a1, a2, a3, a4, a5, a6, a7, a8]) 7).run Tryz.prog W = .ok a7 W := by
  unfold Instr.field
  simp only [Sem.run_bind, run_underlying Tryz.underlying57, Result.andThen]
  have hagg : (isAgg 4).run Tryz.prog W = .ok false W := by kernel_rfl
  show Sem.run _ (do let l ← asAgg (Value.agg #[a0, a1, a2, a3, a4, a5, a6, a7, a8]); part 4 l 7) W = _
  simp [Sem.run_bind, asAgg, part, hagg, Sem.run_pure]
theorem muxOn_any (B x : Nat) (R : List PRow) (lost : Int) (F : Nat → Prop) (w : World) (hM : MuxIs B w x R lost F) (h8 : R.length ≤ 8) :
    Calls Tryz.prog 41 #[.pointer (some ⟨x, 0, none⟩)] w fun e w' => ∃ v, e = .returned v ∧ w'.ownsRow w.heap.size 34 1 v ((sortI (R.map PRow.code)).filter (onAt R)).length (u32c ((sortI (R.map PRow.code)).filter (onAt R))) ∧ Below w.heap.size w w' := by
  have hcodes := muxCodes_any B x R lost F w hM h8
  have hsl : (sortI (R.map PRow.code)).length = R.length := by rw [sortI_length, List.length_map]
  have hmem : ∀ c ∈ sortI (R.map PRow.code), ∃ (i : Nat) (r : PRow), R[i]? = some r ∧ r.code = c := fun c hc => by
    obtain ⟨r, hr, he⟩ := List.mem_map.1 ((sortI_perm _).subset hc)
    obtain ⟨i, hi⟩ := List.getElem?_of_mem hr
    exact ⟨i, r, hi, he⟩
  obtain ⟨⟨κ, mp, bl, hM, hF⟩, hlo⟩ := hM
  have hnod := hM.codes
  generalize hcs : sortI (R.map PRow.code) = cs at *
  obtain ⟨i0, hi0, hz0, hz1, hz2⟩ := info_parts u32_info
  have HM := Lib.hid hM
  clear hM hlo hF
  go_enter Tryz.func41, Tryz.ntmps41
  go_wp2_with fail
  refine hcodes.mono ?_
  rintro e w1 ⟨v1, rfl, hown1, hb1⟩
  obtain ⟨A1, c1, rfl⟩ := own_slice hown1
  go_wp2_with fail
  have hz := hb1.size
  have Hrow := Lib.hid (Reads.of_own hown1)
  go_loopg [3, 9] R.length (fun q v3 v9 wr => ∃ (k : Nat), v9 = .int .i64 k ∧ k + q = R.length ∧ wr.ownsRow w1.heap.size 34 1 v3 ((cs.take k).filter (onAt R)).length (u32c ((cs.take k).filter (onAt R))) ∧ Below w1.heap.size w1 wr)
  case atStart => exact ⟨0, rfl, by omega, by simpa [u32c] using World.ownsRow_nil w1 w1.heap.size 34 1, Below.refl _ _⟩
  case round =>
    obtain ⟨k, rfl, hq, hown, hb⟩ := hrel
    obtain ⟨Wr, rfl⟩ : ∃ W : World, W = wr := ⟨_, rfl⟩
    obtain ⟨A3, c3, rfl⟩ := own_slice hown
    have Hq := Lib.hid hq
    by_cases hlt : k < R.length
    · have hkc : k < cs.length := by omega
      have hck : cs[k]? = some (cs[k]'hkc) := List.getElem?_eq_getElem hkc
      obtain ⟨i, r, hr, hrc⟩ := hmem (cs[k]'hkc) (List.getElem_mem _)
      rw [← hrc] at hck
      have hbw := hb1.trans (hb.mono hz)
      have hMW := HM.out.below hbw
      obtain ⟨ad, rfl, hcell⟩ := reads_u32 (Hrow.out.below hb) hlt hck
      have hcx := hMW.blk.cell
      have hlook := hMW.map.run_lookup (P := Tryz.prog) Tryz.underlying154 Tryz.underlying34 (zero_port Wr) r.code
      rw [lk_port hMW.codes hr] at hlook
      simp only [Option.getD_some] at hlook
      have hfl := port_dev (some ⟨r.a, 0, none⟩) (some ⟨r.s, 0, none⟩) Wr
      have hsee := devSee_any B r.a r.ma r.m _ Wr (hMW.dev i r hr).1 (hMW.dev i r hr).2
      have hon := onAt_row hnod hr
      have hfl7 := end_on
      have hstep : (cs.take (k + 1)).filter (onAt R) = (cs.take k).filter (onAt R) ++ (if r.m.see.on = true then [r.code] else []) := by
        rw [List.take_add_one, hck, List.filter_append]
        congr 1
        show List.filter (onAt R) [r.code] = _
        rw [List.filter_cons, hon]
        cases r.m.see.on <;> rfl
      have hlt' : ((k : Nat) : Int) < (R.length : Int) := by omega
      have Hst := Lib.hid hstep
      have hfl8 : ((cs.take k).filter (onAt R)).length ≤ 8 := by
        have h1 := List.length_filter_le (onAt R) (cs.take k)
        rw [List.length_take] at h1
        omega
      generalize hfk : (cs.take k).filter (onAt R) = fk at *
      generalize r.m.see = em at *
      obtain ⟨st, ses, num, snt, snc, lat, req, on, out⟩ := em
      unfold endVal at hsee
      simp only at hsee hstep Hst
      have hwz := hb.size
      clear hstep hq hmem hkc hck hrc hMW hon hcs hfk
      go_wp2_with fail
      refine hsee.mono ?_
      rintro e w2 ⟨xE, rfl, hownE, hb2⟩
      have hown2 := own_below hown hb2
      have hb12 := hb.trans (hb2.mono hwz)
      clear hsee hlook hcx hcell hfl hownE hown
      cases on with
      | false =>
        go_wp2_with fail
        go_roundg (R.length - (k + 1))
        case measure => have := Hq.out; omega
        case rel =>
          have := Hq.out
          have h1 := Hst.out
          simp at h1
          exact ⟨k + 1, by go_num, by omega, by rw [h1]; exact hown2, hb12⟩
      | true =>
        go_wp2_with (at_builtin; go_must (refine wpList_append_any _ rfl (.tmp 22) (.tmp 24) _ rfl w1.heap.size 34 i0 _ 1 4 Tryz.underlying68 hi0 hz0 hz1 hz2 rfl (by omega) (.slice A3 fk.length c3) fk.length _ rfl (hown2.alloc _) (w2.heap.size + 1) (some ⟨w2.heap.size, 0, none⟩) 1 1 _ rfl (Reads.of_blk (Blk.new w2 _ _) (by omega) rfl) (by simp [Value.oneCell']) (by unfold maxLen; omega) (by omega) (by have := hb12.size; simp; omega) ?_; intro v4 w4 hown4 hg4 hat4; obtain ⟨A4, c4, rfl⟩ := own_slice hown4))
        go_roundg (R.length - (k + 1))
        case measure => have := Hq.out; omega
        case rel =>
          have := Hq.out
          have h1 := Hst.out
          simp at h1
          refine ⟨k + 1, by go_num, by omega, ?_, (hb12.alloc hb12.size _).grown hg4 (by have := hb12.size; simp; omega) (fun k h => by have := (hown2.lt _ h).1; omega)⟩
          rw [h1, u32c, List.map_append, List.length_append]
          exact hown4
    · have hk : k = R.length := by omega
      have htk : cs.take k = cs := List.take_of_length_le (by omega)
      rw [htk] at hown ⊢
      have Hres := Lib.hid (show Wr.ownsRow w.heap.size 34 1 (.slice A3 (List.filter (onAt R) cs).length c3) (List.filter (onAt R) cs).length (u32c (List.filter (onAt R) cs)) ∧ Below w.heap.size w Wr from ⟨own_base hown hz, hb1.trans (hb.mono hz)⟩)
      have hlt' : ¬ ((k : Nat) : Int) < (R.length : Int) := by omega
      clear hown hb hmem hcs htk hq
      go_wp2_with fail
      go_ret
      exact ⟨_, rfl, Hres.out⟩
end Go.Proofs.YtlldgfejcjnpkaaGreat
