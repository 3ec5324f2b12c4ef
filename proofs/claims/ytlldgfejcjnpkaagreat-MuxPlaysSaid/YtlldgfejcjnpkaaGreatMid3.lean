/- Between the base and the laws, part 3: contracts and plain lemmas, no statement. -/
import Derived.Test.YtlldgfejcjnpkaaGreatMid2
import Derived.Deep.RegionHeld3
set_option linter.unusedVariables false
/- The contracts of mux.Codes and mux.On. -/
namespace Go.Proofs.YtlldgfejcjnpkaaGreat
open Go.RowKit
set_option maxHeartbeats 10000000
set_option maxRecDepth 100000

def codesAt (R : List PRow) (seen : List Nat) : List Int := seen.filterMap fun i => (R[i]?).map PRow.code
theorem codesAt_snoc {R : List PRow} {i : Nat} {r : PRow} (h : R[i]? = some r) (seen : List Nat) : codesAt R (seen ++ [i]) = codesAt R seen ++ [r.code] := by
  simp [codesAt, List.filterMap_append, h]
theorem codesAt_range (R : List PRow) : ∀ k, k ≤ R.length → codesAt R (List.range k) = (R.take k).map PRow.code
  | 0, _ => by simp [codesAt]
  | k + 1, h => by
    have hk : R[k]? = some (R[k]'(by omega)) := List.getElem?_eq_getElem _
    rw [List.range_succ, codesAt_snoc hk, codesAt_range R k (by omega), List.take_add_one, hk, List.map_append]
    rfl
theorem codesAt_perm {R : List PRow} {seen : List Nat} (hn : seen.Nodup) (hlt : ∀ i ∈ seen, i < R.length) (hall : ∀ i, i < R.length → i ∈ seen) : (codesAt R seen).Perm (R.map PRow.code) := by
  have hp : seen.Perm (List.range R.length) := (List.perm_ext_iff_of_nodup hn List.nodup_range).2 (fun i => by rw [List.mem_range]; exact ⟨hlt i, hall i⟩)
  have h1 := hp.filterMap (fun i => (R[i]?).map PRow.code)
  have h2 := codesAt_range R R.length (Nat.le_refl _)
  rw [List.take_length] at h2
  unfold codesAt at h2 ⊢
  rw [h2] at h1
  exact h1
theorem codesAt_length {R : List PRow} : ∀ {seen : List Nat}, (∀ i ∈ seen, i < R.length) → (codesAt R seen).length = seen.length
  | [], _ => rfl
  | i :: s, h => by
    have h1 := h i List.mem_cons_self
    have ih := codesAt_length (R := R) (seen := s) (fun x hx => h x (List.mem_cons_of_mem _ hx))
    unfold codesAt at ih ⊢
    rw [List.filterMap_cons, List.getElem?_eq_getElem h1]
    simp [ih]
theorem sortI_perm_eq {a b : List Int} (h : a.Perm b) : sortI a = sortI b := sortI_of ((sortI_perm a).trans h) (sortI_sorted a)
theorem u32_info : (Tryz.prog.info? 34).map (fun i => (i.zero, i.size, i.bytes)) = some (some (.int .u32 0), 1, 4) := by kernel_rfl
theorem muxCodes_any (B x : Nat) (R : List PRow) (lost : Int) (F : Nat → Prop) (w : World) (hM : MuxIs B w x R lost F) (h8 : R.length ≤ 8) :
    Calls Tryz.prog 28 #[.pointer (some ⟨x, 0, none⟩)] w fun e w' => ∃ v, e = .returned v ∧ w'.ownsRow w.heap.size 34 1 v R.length (u32c (sortI (R.map PRow.code))) ∧ Below w.heap.size w w' := by
  obtain ⟨⟨κ, mp, bl, hM, hF⟩, hlo⟩ := hM
  have hcx := hM.blk.cell
  have hrange := hM.map.run_range (P := Tryz.prog) Tryz.underlying154
  rw [List.length_map] at hrange
  have Hmap := Lib.hid hM.map
  clear hM hF hlo
  obtain ⟨i0, hi0, hz0, hz1, hz2⟩ := info_parts u32_info
  go_enter Tryz.func28, Tryz.ntmps28
  go_wp2_with fail
  go_loopg [3] R.length (fun q v3 wr => ∃ (seen : Array Nat), seen.size + q = R.length ∧ Hid (seen.toList.Nodup ∧ (∀ i ∈ seen.toList, i < R.length)) ∧ MapG.IterAt wr w.heap.size mp R.length seen ∧
      wr.ownsRow (w.heap.size + 1) 34 1 v3 seen.size (u32c (codesAt R seen.toList)) ∧ Below w.heap.size w wr ∧ w.heap.size < wr.heap.size)
  case atStart =>
    refine ⟨#[], by simp, Lib.hid ⟨by simp, by simp⟩, heap_alloc_new w _, World.ownsRow_nil _ _ _ _, (Below.refl _ _).alloc (Nat.le_refl _) _, by simp⟩
  case round =>
    obtain ⟨seen, hq, HA, hit, hown, hb, hlt⟩ := hrel
    obtain ⟨Wr, rfl⟩ : ∃ W : World, W = wr := ⟨_, rfl⟩
    obtain ⟨A3, c3, rfl⟩ := own_slice hown
    have hmw : MapG.MapIs .u32 Wr mp (R.map PRow.port) := (hb.block mp Hmap.out.lt).trans Hmap.out
    rcases hmw.run_next (P := Tryz.prog) (by rw [List.length_map]; exact hit) 0 with ⟨hdone, hrun⟩ | ⟨i, p, w2, hi, hns, hrun, hit2, hk2, hz2', hm2, hen⟩
    · have hrun' : ∀ ty, (Instr.next (.pointer (some ⟨w.heap.size, 0, none⟩)) false ty).run Tryz.prog Wr = .ok (.tuple #[.bool false]) Wr := fun _ => hrun
      obtain ⟨hnd, hin⟩ := HA.out
      have hpm := codesAt_perm hnd hin (fun j hj => hdone j (by simpa using hj))
      have hsl : seen.size = R.length := by have := hpm.length_eq; rw [codesAt_length hin, List.length_map] at this; simpa using this
      have hcl : (codesAt R seen.toList).length = R.length := by rw [hpm.length_eq, List.length_map]
      rw [hsl] at hown
      have hsort := sort32_any (.slice A3 R.length c3) (w.heap.size + 1) (codesAt R seen.toList) Wr (by omega) (by rw [hcl]; exact hown)
      rw [hcl, sortI_perm_eq hpm] at hsort
      rw [hsl]
      have Hlt := fun y hy => (hown.lt y hy).1
      clear hrun hdone hq hnd hin hmw hit HA hpm hsl hcl hown
      go_wp2_with fail
      refine hsort.mono ?_
      rintro e w3 ⟨rfl, h1, h2, h3⟩
      have H1 := Lib.hid (own_base h1 (show w.heap.size ≤ w.heap.size + 1 by omega))
      have H2 := Lib.hid (hb.trans (h2.below (B := w.heap.size) (by omega) (fun y hy => by have := Hlt y hy; omega)))
      clear h1 h2 hsort
      go_wp2_with fail
      go_ret
      exact ⟨_, rfl, H1.out, H2.out⟩
    · obtain ⟨r, hr, rfl⟩ : ∃ r, R[i]? = some r ∧ r.port = p := by
        rw [List.getElem?_map] at hi
        cases hri : R[i]? with
        | none => rw [hri] at hi; cases hi
        | some r => rw [hri] at hi; exact ⟨r, rfl, Option.some.inj hi⟩
      have hrun' : ∀ ty, (Instr.next (.pointer (some ⟨w.heap.size, 0, none⟩)) false ty).run Tryz.prog Wr = .ok (.tuple #[.bool true, .int .u32 r.code, .agg #[.pointer (some ⟨r.a, 0, none⟩), .pointer (some ⟨r.s, 0, none⟩)]]) w2 := fun _ => hrun
      have hen' : (Instr.entry (.pointer (some ⟨w.heap.size, 0, none⟩))).run Tryz.prog w2 = .ok (.tuple #[.int .u32 r.code, .agg #[.pointer (some ⟨r.a, 0, none⟩), .pointer (some ⟨r.s, 0, none⟩)]]) w2 := hen
      have hw2 : Below w.heap.size w w2 := hb.trans (hk2.below (B := w.heap.size) (by omega) (fun b h => by omega))
      have hown2 := ownsRow_keep hown hk2 (fun g h => by have := (hown.lt g h).1; omega)
      have hil : i < R.length := (List.getElem?_eq_some_iff.1 hr).1
      have Hr := Lib.hid hr
      have Hq := Lib.hid hq
      have hlt2 : w.heap.size < w2.heap.size := by omega
      have hsl : seen.size < R.length := by
        obtain ⟨hn, hs'⟩ := HA.out
        have := nodup_lt (i :: seen.toList) (List.range R.length) (List.nodup_cons.2 ⟨hns, hn⟩) (fun x hx => by
          rw [List.mem_range]
          rcases List.mem_cons.1 hx with rfl | h
          · exact hil
          · exact hs' x h)
        simp at this
        omega
      have Hns := Lib.hid hns
      have Hit2 := Lib.hid hit2
      clear hrun hen hi hr hq hz2' hns hmw hit hit2 hown hb hlt hm2
      go_wp2_with (at_builtin; go_must (refine wpList_append_any _ rfl (.tmp 16) (.tmp 18) _ rfl (w.heap.size + 1) 34 i0 _ 1 4 Tryz.underlying68 hi0 hz0 hz1 hz2 rfl (by omega) (.slice A3 seen.size c3) seen.size _ rfl (hown2.alloc _) (w2.heap.size + 1) (some ⟨w2.heap.size, 0, none⟩) 1 1 _ rfl (Reads.of_blk (Blk.new w2 _ _) (by omega) rfl) (by simp [Value.oneCell']) (by unfold maxLen; omega) (by omega) (by simp; omega) ?_; intro v4 w4 hown4 hg4 hat4; obtain ⟨A4, c4, rfl⟩ := own_slice hown4))
      go_roundg (R.length - (seen.size + 1))
      case measure => have := Hq.out; omega
      case rel =>
        have hq := Hq.out
        obtain ⟨hnd, hin⟩ := HA.out
        have hit3 := Hit2.out
        rw [List.length_map] at hit3
        refine ⟨seen.push i, by simp; omega, Lib.hid ⟨?_, ?_⟩, ?_, ?_, ?_, ?_⟩
        · rw [Array.toList_push, List.nodup_append]
          exact ⟨hnd, by simp, fun y hy z hz => by simp only [List.mem_singleton] at hz; subst hz; intro e; exact Hns.out (e ▸ hy)⟩
        · intro y hy
          rw [Array.toList_push, List.mem_append] at hy
          rcases hy with h | h
          · exact hin y h
          · simp only [List.mem_singleton] at h; subst h; exact hil
        · exact Keep.obj (S := fun k => (Value.slice A3 seen.size c3).ownBlock = some k) (((Keep.refl _ w2).alloc _).grown hg4 (fun k h _ => h)) hit3 (fun h => by have := (hown2.lt _ h).1; omega)
        · rw [Array.toList_push, codesAt_snoc Hr.out, u32c, List.map_append, Array.size_push]
          exact hown4
        · exact (hw2.alloc hw2.size _).grown hg4 (by have := hw2.size; simp; omega) (fun k h => by have := (hown2.lt _ h).1; omega)
        · have := hg4.size
          simp at this
          omega
theorem filter_codes (R : List PRow) (p : Int → Bool) : (sortI (R.map PRow.code)).filter p = sortI ((R.map PRow.code).filter p) :=
  sortI_of ((sortI_perm _).filter p) ((sortI_sorted _).filter p)
/-- Is the output of the row with this code on? -/
def onAt (R : List PRow) (c : Int) : Bool := R.any fun r => r.code == c && r.m.see.on
theorem onAt_row {R : List PRow} (hn : (R.map PRow.code).Nodup) {i : Nat} {r : PRow} (hr : R[i]? = some r) : onAt R r.code = r.m.see.on := by
  unfold onAt
  cases ho : r.m.see.on with
  | true => exact List.any_eq_true.2 ⟨r, List.mem_of_getElem? hr, by simp [ho]⟩
  | false =>
    rw [Bool.eq_false_iff]
    intro h
    obtain ⟨q, hq, h2⟩ := List.any_eq_true.1 h
    obtain ⟨j, hj⟩ := List.getElem?_of_mem hq
    have hcode : q.code = r.code := by simp at h2; exact h2.1
    have hjl := (List.getElem?_eq_some_iff.1 hj).1
    have hil := (List.getElem?_eq_some_iff.1 hr).1
    have e : j = i := (List.getElem_inj (h₀ := by simpa using hjl) (h₁ := by simpa using hil) hn).1 (show (R.map PRow.code)[j]'(by simpa using hjl) = (R.map PRow.code)[i]'(by simpa using hil) by
      simp [(List.getElem?_eq_some_iff.1 hj).2, (List.getElem?_eq_some_iff.1 hr).2, hcode])
    subst e
    rw [hj] at hr
    injection hr with hr
    subst hr
    simp [ho] at h2
theorem reads_u32 {w : World} {B : Nat} {A : Option Addr} {n : Nat} {l : List Int} (h : Reads w B 1 A n (u32c l)) {k : Nat} (hk : k < n) {r : Int} (hr : l[k]? = some r) : ∃ ad, A = some ad ∧ w.cell? (ad.add k) = some (.int .u32 r) := by
  obtain ⟨ad, u, h1, _, h3, h4⟩ := h.at_ hk
  refine ⟨ad, h1, ?_⟩
  rw [h4, ← h3, u32c, List.getElem?_map, hr]
  rfl
theorem end_on (a0 a1 a2 a3 a4 a5 a6 a7 a8 : Value) (W : World) : (Instr.field 57 (.agg #[a0, a1, a2, a3, a4, a5, a6, a7, a8]) 7).run Tryz.prog W = .ok a7 W := by
  unfold Instr.field
  simp only [Sem.run_bind, run_underlying Tryz.underlying57, Result.andThen]
  have hagg : (isAgg 4).run Tryz.prog W = .ok false W := by kernel_rfl
  show Sem.run _ (do let l ← asAgg (Value.agg #[a0, a1, a2, a3, a4, a5, a6, a7, a8]); part 4 l 7) W = _
  simp [Sem.run_bind, asAgg, part, hagg, Sem.run_pure]
theorem muxOn_any (B x : Nat) (R : List PRow) (lost : Int) (F : Nat → Prop) (w : World) (hM : MuxIs B w x R lost F) (h8 : R.length ≤ 8) :
    Calls Tryz.prog 41 #[.pointer (some ⟨x, 0, none⟩)] w fun e w' => ∃ v, e = .returned v ∧ w'.ownsRow w.heap.size 34 1 v ((sortI (R.map PRow.code)).filter (onAt R)).length (u32c ((sortI (R.map PRow.code)).filter (onAt R))) ∧ Below w.heap.size w w' := by
  have hcodes := muxCodes_any B x R lost F w hM h8
  have hsl : (sortI (R.map PRow.code)).length = R.length := by rw [sortI_length, List.length_map]
  have hmem : ∀ c ∈ sortI (R.map PRow.code), ∃ (i : Nat) (r : PRow), R[i]? = some r ∧ r.code = c := fun c hc => by
    obtain ⟨r, hr, he⟩ := List.mem_map.1 ((sortI_perm _).subset hc)
    obtain ⟨i, hi⟩ := List.getElem?_of_mem hr
    exact ⟨i, r, hi, he⟩
  obtain ⟨⟨κ, mp, bl, hM, hF⟩, hlo⟩ := hM
  have hnod := hM.codes
  generalize hcs : sortI (R.map PRow.code) = cs at *
  obtain ⟨i0, hi0, hz0, hz1, hz2⟩ := info_parts u32_info
  have HM := Lib.hid hM
  clear hM hlo hF
  go_enter Tryz.func41, Tryz.ntmps41
  go_wp2_with fail
  refine hcodes.mono ?_
  rintro e w1 ⟨v1, rfl, hown1, hb1⟩
  obtain ⟨A1, c1, rfl⟩ := own_slice hown1
  go_wp2_with fail
  have hz := hb1.size
  have Hrow := Lib.hid (Reads.of_own hown1)
  go_loopg [3, 9] R.length (fun q v3 v9 wr => ∃ (k : Nat), v9 = .int .i64 k ∧ k + q = R.length ∧ wr.ownsRow w1.heap.size 34 1 v3 ((cs.take k).filter (onAt R)).length (u32c ((cs.take k).filter (onAt R))) ∧ Below w1.heap.size w1 wr)
  case atStart => exact ⟨0, rfl, by omega, by simpa [u32c] using World.ownsRow_nil w1 w1.heap.size 34 1, Below.refl _ _⟩
  case round =>
    obtain ⟨k, rfl, hq, hown, hb⟩ := hrel
    obtain ⟨Wr, rfl⟩ : ∃ W : World, W = wr := ⟨_, rfl⟩
    obtain ⟨A3, c3, rfl⟩ := own_slice hown
    have Hq := Lib.hid hq
    by_cases hlt : k < R.length
    · have hkc : k < cs.length := by omega
      have hck : cs[k]? = some (cs[k]'hkc) := List.getElem?_eq_getElem hkc
      obtain ⟨i, r, hr, hrc⟩ := hmem (cs[k]'hkc) (List.getElem_mem _)
      rw [← hrc] at hck
      have hbw := hb1.trans (hb.mono hz)
      have hMW := HM.out.below hbw
      obtain ⟨ad, rfl, hcell⟩ := reads_u32 (Hrow.out.below hb) hlt hck
      have hcx := hMW.blk.cell
      have hlook := hMW.map.run_lookup (P := Tryz.prog) Tryz.underlying154 Tryz.underlying34 (zero_port Wr) r.code
      rw [lk_port hMW.codes hr] at hlook
      simp only [Option.getD_some] at hlook
      have hfl := port_dev (some ⟨r.a, 0, none⟩) (some ⟨r.s, 0, none⟩) Wr
      have hsee := devSee_any B r.a r.ma r.m _ Wr (hMW.dev i r hr).1 (hMW.dev i r hr).2
      have hon := onAt_row hnod hr
      have hfl7 := end_on
      have hstep : (cs.take (k + 1)).filter (onAt R) = (cs.take k).filter (onAt R) ++ (if r.m.see.on = true then [r.code] else []) := by
        rw [List.take_add_one, hck, List.filter_append]
        congr 1
        show List.filter (onAt R) [r.code] = _
        rw [List.filter_cons, hon]
        cases r.m.see.on <;> rfl
      have hlt' : ((k : Nat) : Int) < (R.length : Int) := by omega
      have Hst := Lib.hid hstep
      have hfl8 : ((cs.take k).filter (onAt R)).length ≤ 8 := by
        have h1 := List.length_filter_le (onAt R) (cs.take k)
        rw [List.length_take] at h1
        omega
      generalize hfk : (cs.take k).filter (onAt R) = fk at *
      generalize r.m.see = em at *
      obtain ⟨st, ses, num, snt, snc, lat, req, on, out⟩ := em
      unfold endVal at hsee
      simp only at hsee hstep Hst
      have hwz := hb.size
      clear hstep hq hmem hkc hck hrc hMW hon hcs hfk
      go_wp2_with fail
      refine hsee.mono ?_
      rintro e w2 ⟨xE, rfl, hownE, hb2⟩
      have hown2 := own_below hown hb2
      have hb12 := hb.trans (hb2.mono hwz)
      clear hsee hlook hcx hcell hfl hownE hown
      cases on with
      | false =>
        go_wp2_with fail
        go_roundg (R.length - (k + 1))
        case measure => have := Hq.out; omega
        case rel =>
          have := Hq.out
          have h1 := Hst.out
          simp at h1
          exact ⟨k + 1, by go_num, by omega, by rw [h1]; exact hown2, hb12⟩
      | true =>
        go_wp2_with (at_builtin; go_must (refine wpList_append_any _ rfl (.tmp 22) (.tmp 24) _ rfl w1.heap.size 34 i0 _ 1 4 Tryz.underlying68 hi0 hz0 hz1 hz2 rfl (by omega) (.slice A3 fk.length c3) fk.length _ rfl (hown2.alloc _) (w2.heap.size + 1) (some ⟨w2.heap.size, 0, none⟩) 1 1 _ rfl (Reads.of_blk (Blk.new w2 _ _) (by omega) rfl) (by simp [Value.oneCell']) (by unfold maxLen; omega) (by omega) (by have := hb12.size; simp; omega) ?_; intro v4 w4 hown4 hg4 hat4; obtain ⟨A4, c4, rfl⟩ := own_slice hown4))
        go_roundg (R.length - (k + 1))
        case measure => have := Hq.out; omega
        case rel =>
          have := Hq.out
          have h1 := Hst.out
          simp at h1
          refine ⟨k + 1, by go_num, by omega, ?_, (hb12.alloc hb12.size _).grown hg4 (by have := hb12.size; simp; omega) (fun k h => by have := (hown2.lt _ h).1; omega)⟩
          rw [h1, u32c, List.map_append, List.length_append]
          exact hown4
    · have hk : k = R.length := by omega
      have htk : cs.take k = cs := List.take_of_length_le (by omega)
      rw [htk] at hown ⊢
      have Hres := Lib.hid (show Wr.ownsRow w.heap.size 34 1 (.slice A3 (List.filter (onAt R) cs).length c3) (List.filter (onAt R) cs).length (u32c (List.filter (onAt R) cs)) ∧ Below w.heap.size w Wr from ⟨own_base hown hz, hb1.trans (hb.mono hz)⟩)
      have hlt' : ¬ ((k : Nat) : Int) < (R.length : Int) := by omega
      clear hown hb hmem hcs htk hq
      go_wp2_with fail
      go_ret
      exact ⟨_, rfl, Hres.out⟩
end Go.Proofs.YtlldgfejcjnpkaaGreat
/- parapetlaw16.made: a device and the reference's, with a code. -/
namespace Go.Proofs.YtlldgfejcjnpkaaGreat
open Go.RowKit
set_option maxHeartbeats 10000000
set_option maxRecDepth 100000

def codeM (c : Int) : ParM := ⟨c, 2, 1, 10, 9⟩
def firstC (c : Int) : DevM := { p := codeM c, m := mem16, max := 99, cell := ⟨99, 0, false⟩, value := [0] }
theorem codeM_ok {c : Int} (h : 0 ≤ c ∧ c < 4294967296) : (codeM c).Ok := ⟨h, by show (0 : Int) ≤ 9 ∧ (9 : Int) < 4294967296; decide⟩
theorem new_code {c : Int} (h : c ≠ 0) : DevM.new (codeM c) mem16 99 = (mem16, some (firstC c), 0) := by
  have hl : (!(codeM c).lawful) = false := by simp [ParM.lawful, codeM, h]
  have ho : openM mem16 99 = (mem16, some ⟨99, 0, false⟩, 0) := by kernel_rfl
  unfold DevM.new
  rw [hl, ho]
  rfl
theorem new_code0 : DevM.new (codeM 0) mem16 99 = (mem16, none, 90) := by kernel_rfl
theorem firstC_inv {c : Int} (h : 0 ≤ c ∧ c < 4294967296) (h0 : c ≠ 0) : (firstC c).Inv := (DevM.inv_new (codeM_ok h) (by omega) (new_code h0)).1
theorem DevIs.base {B B' : Nat} {w : World} {a mb : Nat} {m : DevM} {F : Nat → Prop} (h : DevIs B w a mb m F) (hB : B' ≤ B) : DevIs B' w a mb m F := by
  obtain ⟨⟨κ, c, d, v, g, val, hH, hF⟩, hlo⟩ := h
  exact ⟨⟨κ, c, d, v, g, val, { hH with lo := fun x hx => by have := hH.lo x hx; omega }, hF⟩, fun x hx => by have := hlo x hx; omega⟩
theorem RDIs.base {B B' : Nat} {w : World} {b mb : Nat} {m : DevM} {F : Nat → Prop} (h : RDIs B w b mb m F) (hB : B' ≤ B) : RDIs B' w b mb m F := by
  obtain ⟨⟨κ, A, c, vv, val, cb, hH, hF⟩, hlo⟩ := h
  exact ⟨⟨κ, A, c, vv, val, cb, { hH with lo := fun x hx => by have := hH.lo x hx; omega }, hF⟩, fun x hx => by have := hlo x hx; omega⟩
theorem TwoD.base {B B' a ma b mb : Nat} {w : World} {m : DevM} {T : Nat → Prop} (h : TwoD B w a ma b mb m T) (hB : B' ≤ B) : TwoD B' w a ma b mb m T := by
  obtain ⟨F1, F2, hP, hT⟩ := h.pair
  exact ⟨⟨F1, F2, ⟨hP.dev.base hB, hP.ref.base hB, hP.dj⟩, hT⟩, h.inv, h.lt⟩
/-- A device and the reference's of one code, or none where it is 0; the memory at ma. -/
def MadeAns (w : World) (c : Int) (e : Ending) (w' : World) : Prop :=
  Below w.heap.size w w' ∧ ((c = 0 ∧ ∃ ma, e = .returned (.tuple #[.pointer none, .pointer (some ⟨ma, 0, none⟩), .pointer none])) ∨
    (c ≠ 0 ∧ ∃ a ma b mb T, e = .returned (.tuple #[.pointer (some ⟨a, 0, none⟩), .pointer (some ⟨ma, 0, none⟩), .pointer (some ⟨b, 0, none⟩)]) ∧ TwoD w.heap.size w' a ma b mb (firstC c) T ∧ ∀ y, T y → w.heap.size ≤ y))
theorem made_any (c : Int) (w : World) (hc : 0 ≤ c ∧ c < 4294967296) : Calls Tryz.prog 31 #[.int .u32 c] w fun e w' => MadeAns w c e w' := by
  unfold MadeAns
  go_enter Tryz.func31, Tryz.ntmps31
  go_wp2_with fail
  refine (lawSmall_any w).mono ?_
  rintro e w1 ⟨rfl, hb1⟩
  have hz1 := hb1.size
  have hbP := (Below.refl w1.heap.size w1).alloc (Nat.le_refl _) (.cells #[.int .u32 c, .int .i64 2, .int .i64 1, .int .i64 10, .int .u32 9] 36)
  have hP := Blk.new w1 36 #[.int .u32 c, .int .i64 2, .int .i64 1, .int .i64 10, .int .u32 9]
  have hb2 := hb1.trans (hbP.mono hz1)
  have hz2 := hb2.size
  unfold parVal smallM
  simp only
  clear hb1 hbP
  go_upto_region 3 with fail
  generalize hgP : w1.heap.size = gP at *
  generalize w1.alloc (.cells #[.int .u32 c, .int .i64 2, .int .i64 1, .int .i64 10, .int .u32 9] 36) = w2 at *
  have hcP := hP.cell
  have HgP := Lib.hid hP.lt
  have Hz := Lib.hid hz2
  go_wp2_with fail
  refine (memNew16_any w2).mono ?_
  rintro e w3 ⟨ma, rfl, hM3, hb3⟩
  have hP3 := hP.below hb3 hP.lt
  clear hcP hP
  have hcP := hP3.cell
  go_wp2_with fail
  refine (rmemNew16_any w3).mono ?_
  rintro e w4 ⟨mb, rfl, hM4, hb4⟩
  obtain ⟨F1, F2, hMs⟩ := mems_new hM3 hb3 hM4 hb4
  have hP4 := hP3.below hb4 hP3.lt
  have hz4 : w2.heap.size ≤ w4.heap.size := Nat.le_trans hb3.size hb4.size
  have hq4 := hb3.trans (hb4.mono hb3.size)
  clear hcP hP3 hM3 hM4 hb3 hb4
  have hcP := hP4.cell
  have hnew := devNew_any w2.heap.size ma (codeM c) mem16 F1 99 w4 hMs.m1 rfl hMs.lo1 hz4 (by omega)
  have hrnew := fun (W : World) h1 h2 => rdNew_any w2.heap.size mb (codeM c) mem16 F2 99 W (codeM_ok hc) h1 h2
  unfold NewAns at hnew
  by_cases h0 : c = 0
  · subst h0
    rw [new_code0] at hnew hrnew
    simp only at hnew hrnew
    go_wp2_with fail
    refine hnew.mono ?_
    rintro e w5 ⟨hk5, rfl, hM5⟩
    have hq5 := hq4.trans (hk5.below hz4 (fun x hx => (hMs.lo1 x hx).1))
    have hP5 := hP4.keep hk5 (fun hx => by have h1 := (hMs.lo1 gP hx).1; have h2 := HgP.out; omega)
    have hM2 := hMs.m2.keep hk5 (fun x hx h1 => hMs.dj x h1 hx) (fun _ h => h)
    have hlo2 : ∀ x, F2 x → w2.heap.size ≤ x ∧ x < w5.heap.size := fun x hx => by have := hMs.lo2 x hx; have := hk5.size; omega
    have hz5 := hk5.size
    clear hcP hP4 hnew hMs hM5 hk5
    have hcP := hP5.cell
    go_wp2_with fail
    refine (hrnew w5 hM2 hlo2).mono ?_
    rintro e w6 ⟨hk6, rfl⟩
    have hb6 := hb2.trans ((hq5.trans (hk6.below (by omega) (fun x hx => (hlo2 x hx).1))).mono hz2)
    clear hcP hP5 hrnew hM2 hlo2 hk6
    go_wp2_with fail
    refine bodyPost_ret (v := .tuple #[.pointer none, .pointer (some ⟨ma, 0, none⟩), .pointer none]) (by simp [results, Tryz.results31, go_sem]) rfl ⟨hb6, ma, rfl⟩
  · rw [new_code h0] at hnew hrnew
    simp only at hnew hrnew
    go_wp2_with fail
    refine hnew.mono ?_
    rintro e w5 ⟨hk5, _, a, F3, rfl, hI5, hs5⟩
    have hq5 := hq4.trans (hk5.below hz4 (fun x hx => (hMs.lo1 x hx).1))
    have hP5 := hP4.keep hk5 (fun hx => by have h1 := (hMs.lo1 gP hx).1; have h2 := HgP.out; omega)
    obtain ⟨hM5, hlo5, hdj5⟩ := hMs.dev hk5 hs5
    have hz5 := hk5.size
    clear hcP hP4 hnew hMs hk5 hs5
    have hcP := hP5.cell
    go_wp2_with fail
    refine (hrnew w5 hM5 hlo5).mono ?_
    rintro e w6 ⟨hk6, b, rfl, hR6⟩
    have hT := two_newD (firstC_inv hc h0) hI5 hdj5 hR6 hk6
    have hb6 := hb2.trans ((hq5.trans (hk6.below (by omega) (fun x hx => (hlo5 x hx).1))).mono hz2)
    have Hlo := Lib.hid hI5.lo
    have Hlo2 := Lib.hid hR6.lo
    clear hcP hP5 hrnew hM5 hlo5 hk6 hI5 hR6
    go_wp2_with fail
    refine bodyPost_ret (v := .tuple #[.pointer (some ⟨a, 0, none⟩), .pointer (some ⟨ma, 0, none⟩), .pointer (some ⟨b, 0, none⟩)]) (by simp [results, Tryz.results31, go_sem]) rfl ⟨hb6, .inr ⟨h0, a, ma, b, mb, _, rfl, hT.base hz2, fun y hy => ?_⟩⟩
    rcases hy with hy | hy
    · have := Hlo.out y hy; omega
    · have := Hlo2.out y hy; omega
end Go.Proofs.YtlldgfejcjnpkaaGreat
/- The reference's mux in memory (parapetref16): its devices, told apart by a colour each. -/
namespace Go.Proofs.YtlldgfejcjnpkaaGreat
open Go.RowKit
set_option maxHeartbeats 4000000
set_option maxRecDepth 100000

/-- A device of the reference's in a mux: at b, its memory at mb. -/
structure QRow where
  b : Nat
  mb : Nat
  m : DevM
  seen : Int
def QRow.code (q : QRow) : Int := q.m.p.code
def qptr (q : QRow) : Value := .pointer (some ⟨q.b, 0, none⟩)
def qseen (q : QRow) : Value := .int .i64 q.seen
/-- Colours: 0 the mux's block, 1 the list's row, 2 the counts' row, 2 i + 11 the i-th device. -/
structure RMuxAt (B : Nat) (w : World) (y : Nat) (Q : List QRow) (lost : Int) (κ : Nat → Option Nat) (vl vs : Value) : Prop where
  blk : Blk w y 152 #[vl, vs, .int .i64 lost]
  list : w.ownsRow 0 38 1 vl Q.length (Q.map qptr)
  seen : w.ownsRow 0 3 1 vs Q.length (Q.map qseen)
  dev : ∀ i q, Q[i]? = some q → RDIs B w q.b q.mb q.m (Of κ (2 * i + 11)) ∧ q.m.Inv
  ky : Of κ 0 y
  kv : ∀ g, vl.ownBlock = some g → Of κ 1 g
  ks : ∀ g, vs.ownBlock = some g → Of κ 2 g
  lo : ∀ g, κ g ≠ none → B ≤ g ∧ g < w.heap.size
def RMuxIs (B : Nat) (w : World) (y : Nat) (Q : List QRow) (lost : Int) (F : Nat → Prop) : Prop := (∃ κ vl vs, RMuxAt B w y Q lost κ vl vs ∧ ∀ g, κ g ≠ none → F g) ∧ ∀ g, F g → B ≤ g ∧ g < w.heap.size
structure RMuxTo (B : Nat) (w : World) (y : Nat) (Q : List QRow) (lost : Int) (F : Nat → Prop) (w' : World) : Prop where
  is_ : RMuxIs B w' y Q lost (grow F w w')
  keep : Keep F w w'
section
variable {B : Nat} {w w' : World} {y i : Nat} {Q : List QRow} {lost : Int} {κ : Nat → Option Nat} {F S : Nat → Prop} {q : QRow} {vl vs : Value}
theorem RMuxAt.Ble (h : RMuxAt B w y Q lost κ vl vs) : B ≤ w.heap.size := by have := h.lo y (by rw [show κ y = some 0 from h.ky]; simp); omega
theorem RMuxAt.keepS (h : RMuxAt B w y Q lost κ vl vs) (hk : Keep S w w') (hS : ∀ g, κ g ≠ none → ¬ S g) : RMuxAt B w' y Q lost κ vl vs :=
  have hS' : ∀ t g, Of κ t g → ¬ S g := fun t g hg => hS g (by rw [show κ g = some t from hg]; simp)
  { blk := h.blk.keep hk (hS' _ _ h.ky)
    list := ownsRow_keep h.list hk (fun g hg => hS' _ _ (h.kv g hg))
    seen := ownsRow_keep h.seen hk (fun g hg => hS' _ _ (h.ks g hg))
    dev := fun i q hq => ⟨(h.dev i q hq).1.keepS hk (hS' _), (h.dev i q hq).2⟩
    ky := h.ky
    kv := h.kv
    ks := h.ks
    lo := fun g hg => by have := h.lo g hg; have := hk.size; omega }
theorem RMuxAt.below (h : RMuxAt B w y Q lost κ vl vs) (hb : Below w.heap.size w w') : RMuxAt B w' y Q lost κ vl vs := h.keepS (S := fun _ => False) (Keep.of_below hb) (fun _ _ h => h)
theorem RMuxIs.lo (h : RMuxIs B w y Q lost F) : ∀ g, F g → B ≤ g ∧ g < w.heap.size := h.2
theorem RMuxIs.Ble (h : RMuxIs B w y Q lost F) : B ≤ w.heap.size := by obtain ⟨⟨_, _, _, hM, _⟩, _⟩ := h; exact hM.Ble
theorem RMuxIs.keepS (h : RMuxIs B w y Q lost F) (hk : Keep S w w') (hS : ∀ g, F g → ¬ S g) : RMuxIs B w' y Q lost F := by
  obtain ⟨⟨κ, vl, vs, hM, hF⟩, hlo⟩ := h
  exact ⟨⟨κ, vl, vs, hM.keepS hk (fun g hg => hS g (hF g hg)), hF⟩, fun g hg => by have := hlo g hg; have := hk.size; omega⟩
theorem RMuxIs.below (h : RMuxIs B w y Q lost F) (hb : Below w.heap.size w w') : RMuxIs B w' y Q lost F := h.keepS (S := fun _ => False) (Keep.of_below hb) (fun _ _ h => h)
/-- Behind a call that touches colour t alone. -/
theorem RMuxAt.rest (h : RMuxAt B w y Q lost κ vl vs) (t : Nat) (hk : Keep (Of κ t) w w') :
    (t ≠ 0 → Blk w' y 152 #[vl, vs, .int .i64 lost]) ∧ (t ≠ 1 → w'.ownsRow 0 38 1 vl Q.length (Q.map qptr)) ∧ (t ≠ 2 → w'.ownsRow 0 3 1 vs Q.length (Q.map qseen)) ∧
    (∀ i q, Q[i]? = some q → t ≠ 2 * i + 11 → RDIs B w' q.b q.mb q.m (Of (paint κ t w w') (2 * i + 11))) ∧
    Of (paint κ t w w') 0 y ∧ (∀ g, vl.ownBlock = some g → Of (paint κ t w w') 1 g) ∧ (∀ g, vs.ownBlock = some g → Of (paint κ t w w') 2 g) ∧ ∀ g, paint κ t w w' g ≠ none → B ≤ g ∧ g < w'.heap.size := by
  have hlo := paint_lo (t := t) h.lo h.Ble hk.size
  refine ⟨fun ht => h.blk.keep hk (h.ky.ne (Ne.symm ht)), fun ht => ownsRow_keep h.list hk (fun g hg => (h.kv g hg).ne (Ne.symm ht)), fun ht => ownsRow_keep h.seen hk (fun g hg => (h.ks g hg).ne (Ne.symm ht)), fun i q hq ht => ?_, paint_old h.ky h.lo, fun g hg => paint_old (h.kv g hg) h.lo, fun g hg => paint_old (h.ks g hg) h.lo, hlo⟩
  have hd := (h.dev i q hq).1.keepS hk (fun g hg => hg.ne (Ne.symm ht))
  obtain ⟨⟨κ', A, c, vv, val, cb, hD, hF⟩, _⟩ := hd
  exact ⟨⟨κ', A, c, vv, val, cb, hD, fun g hg => paint_old (hF g hg) h.lo⟩, fun g hg => hlo g (by rw [show paint κ t w w' g = _ from hg]; simp)⟩
/-- Behind a call on the i-th device. -/
theorem RMuxAt.onDev (h : RMuxAt B w y Q lost κ vl vs) (hq : Q[i]? = some q) {m' : DevM} (t : RDTo B w q.b q.mb m' (Of κ (2 * i + 11)) w') (hi : m'.Inv) :
    RMuxAt B w' y (Q.set i { q with m := m' }) lost (paint κ (2 * i + 11) w w') vl vs := by
  obtain ⟨h0, h1, h2, hd, k0, k1, k2, lo⟩ := h.rest (2 * i + 11) t.keep
  refine ⟨h0 (by omega), ?_, ?_, fun j p hp => ?_, k0, k1, k2, lo⟩
  · rw [List.length_set, map_set_same qptr (u := { q with m := m' }) hq rfl]; exact h1 (by omega)
  · rw [List.length_set, map_set_same qseen (u := { q with m := m' }) hq rfl]; exact h2 (by omega)
  · rcases set_get hp with ⟨rfl, rfl, _⟩ | ⟨hne, hp⟩
    · refine ⟨?_, hi⟩
      obtain ⟨⟨κ', A, c, vv, val, cb, hD, hF⟩, _⟩ := t.is_
      exact ⟨⟨κ', A, c, vv, val, cb, hD, paint_of h.lo hF⟩, fun g hg => lo g (by rw [show paint κ _ w w' g = _ from hg]; simp)⟩
    · exact ⟨hd j p hp (by omega), (h.dev j p hp).2⟩
theorem RMuxIs.onDev (h : RMuxIs B w y Q lost F) (hq : Q[i]? = some q) : ∃ FD, RDIs B w q.b q.mb q.m FD ∧ q.m.Inv ∧ (∀ g, FD g → F g) ∧ ∀ w' m', RDTo B w q.b q.mb m' FD w' → m'.Inv → RMuxTo B w y (Q.set i { q with m := m' }) lost F w' := by
  obtain ⟨⟨κ, vl, vs, hM, hF⟩, hlo⟩ := h
  refine ⟨_, (hM.dev i q hq).1, (hM.dev i q hq).2, fun g hg => hF g (by rw [show κ g = _ from hg]; simp), fun w' m' t hi => ⟨⟨⟨_, vl, vs, hM.onDev hq t hi, paint_sub hF⟩, fun g hg => ?_⟩, t.keep.mono (fun g _ hg => hF g (by rw [show κ g = _ from hg]; simp))⟩⟩
  have hs := t.keep.size
  have hB := hM.Ble
  rcases hg with hg | hg
  · have := hlo g hg; omega
  · omega
theorem RDIs.code (h : RDIs B w q.b q.mb q.m F) : w.cell? ⟨q.b, 0, none⟩ = some (.int .u32 q.code) := by
  obtain ⟨⟨κ, A, c, vv, val, cb, hD, _⟩, _⟩ := h
  exact (hD.blk.cell 0).trans rfl
/-- The i-th device's place in the list. -/
theorem RMuxAt.ptrAt (h : RMuxAt B w y Q lost κ vl vs) (hq : Q[i]? = some q) : ∃ ad c, vl = .slice (some ad) Q.length c ∧ w.cell? (ad.add i) = some (qptr q) := by
  have hil := (List.getElem?_eq_some_iff.1 hq).1
  obtain ⟨A, c, rfl⟩ := own_slice h.list
  obtain ⟨ad, u, h1, _, h3, h4⟩ := (Reads.of_own h.list).at_ (show i < Q.length by omega)
  refine ⟨ad, c, by rw [h1], ?_⟩
  rw [h4, ← h3, List.getElem?_map, hq]
  rfl
end
end Go.Proofs.YtlldgfejcjnpkaaGreat
/- The reference's mux (parapetref16): Find, Add. -/
namespace Go.Proofs.YtlldgfejcjnpkaaGreat
open Go.RowKit
set_option maxHeartbeats 10000000
set_option maxRecDepth 100000

def findQ (Q : List QRow) (c : Int) : Int := match Q.findIdx? (fun q => q.code == c) with
  | some i => i
  | none => -1
theorem findQ_none {Q : List QRow} {c : Int} (h : ∀ q ∈ Q, q.code ≠ c) : findQ Q c = -1 := by
  unfold findQ
  rw [List.findIdx?_eq_none_iff.2 (fun q hq => by simpa using h q hq)]
theorem findQ_at {Q : List QRow} {c : Int} {i : Nat} {q : QRow} (hq : Q[i]? = some q) (hc : q.code = c) (hm : ∀ j p, j < i → Q[j]? = some p → p.code ≠ c) : findQ Q c = i := by
  unfold findQ
  have hil := (List.getElem?_eq_some_iff.1 hq).1
  rw [List.findIdx?_eq_some_iff_getElem.2 ⟨hil, by rw [(List.getElem?_eq_some_iff.1 hq).2]; simpa using hc, fun j hj => by
    have := hm j (Q[j]'(by omega)) hj (List.getElem?_eq_getElem _)
    simpa using this⟩]
theorem findQ_hit {Q : List QRow} {i : Nat} {q : QRow} (hn : (Q.map QRow.code).Nodup) (hq : Q[i]? = some q) : findQ Q q.code = i :=
  findQ_at hq rfl (fun j p hj hp hc => by
    have hil := (List.getElem?_eq_some_iff.1 hq).1
    have hjl := (List.getElem?_eq_some_iff.1 hp).1
    have e : j = i := (List.getElem_inj (h₀ := by simpa using hjl) (h₁ := by simpa using hil) hn).1 (show (Q.map QRow.code)[j]'(by simpa using hjl) = (Q.map QRow.code)[i]'(by simpa using hil) by
      simp [(List.getElem?_eq_some_iff.1 hp).2, (List.getElem?_eq_some_iff.1 hq).2, hc])
    omega)
theorem rmuxFind_any (B y : Nat) (Q : List QRow) (lost : Int) (κ : Nat → Option Nat) (vl vs : Value) (c : Int) (w : World) (hM : RMuxAt B w y Q lost κ vl vs) (h8 : Q.length ≤ 8) :
    Calls Tryz.prog 125 #[.pointer (some ⟨y, 0, none⟩), .int .u32 c] w fun e w' => e = .returned (.int .i64 (findQ Q c)) ∧ w' = w := by
  have hcy := hM.blk.cell
  obtain ⟨A, cl, rfl⟩ := own_slice hM.list
  have HM := Lib.hid hM
  clear hM
  go_enter Tryz.func125, Tryz.ntmps125
  go_wp2_with fail
  go_loop [5] (fun v5 => ∃ i : Nat, v5 = .int .i64 i ∧ i ≤ Q.length ∧ Hid (∀ j p, j < i → Q[j]? = some p → p.code ≠ c)) (fun v5 => Q.length - (intOf v5).toNat)
  case atStart => exact ⟨0, rfl, Nat.zero_le _, Lib.hid (fun j p h => absurd h (by omega))⟩
  case round =>
    obtain ⟨i, rfl, hi, Hm⟩ := hrel
    by_cases hlt : i < Q.length
    · have hq : Q[i]? = some (Q[i]'hlt) := List.getElem?_eq_getElem hlt
      generalize Q[i]'hlt = q at hq
      obtain ⟨ad, c', e1, p0⟩ := HM.out.ptrAt hq
      injection e1 with e1 _ _
      subst e1
      have p1 := (HM.out.dev i q hq).1.code
      unfold qptr at p0
      have hlt' : ((i : Nat) : Int) < (Q.length : Int) := by omega
      have Hq := Lib.hid hq
      clear hq
      by_cases hc : q.code = c
      · have Hf := Lib.hid (findQ_at Hq.out hc Hm.out)
        have hce : (q.code == c) = true := by simpa using hc
        clear hc
        go_wp2_with fail
        go_ret
        exact ⟨by simp [Hf.out], rfl⟩
      · have hce : (q.code == c) = false := by simpa using hc
        have Hc := Lib.hid hc
        clear hc
        go_wp2_with fail
        go_round
        case rel => exact ⟨i + 1, by go_num, by omega, Lib.hid (fun j p hj hp => by
          rcases Nat.lt_or_ge j i with h | h
          · exact Hm.out j p h hp
          · have : j = i := by omega
            subst this
            rw [Hq.out] at hp
            injection hp with hp
            rw [← hp]; exact Hc.out)⟩
        case measure => simp [intOf]; omega
    · have Hf := Lib.hid (findQ_none (Q := Q) (c := c) (fun q hq => by
        obtain ⟨j, hj⟩ := List.getElem?_of_mem hq
        exact Hm.out j q (by have := (List.getElem?_eq_some_iff.1 hj).1; omega) hj))
      have hlt' : ¬ ((i : Nat) : Int) < (Q.length : Int) := by omega
      go_wp2_with fail
      go_ret
      exact ⟨by simp [Hf.out], rfl⟩
theorem rmuxAdd_twice (B y b mb : Nat) (Q : List QRow) (lost : Int) (F FD : Nat → Prop) (m : DevM) (w : World) (hM : RMuxIs B w y Q lost F) (hD : RDIs B w b mb m FD) (h8 : Q.length ≤ 8) {i : Nat} (hf : findQ Q m.p.code = (i : Int)) :
    Calls Tryz.prog 74 #[.pointer (some ⟨y, 0, none⟩), .pointer (some ⟨b, 0, none⟩)] w fun e w' => e = .returned (.int .i64 160) ∧ w' = w := by
  obtain ⟨⟨κ, vl, vs, hM, _⟩, _⟩ := hM
  have hfi := rmuxFind_any B y Q lost κ vl vs m.p.code w hM h8
  rw [hf] at hfi
  have p1 : w.cell? ⟨b, 0, none⟩ = some (.int .u32 m.p.code) := RDIs.code (q := ⟨b, mb, m, 0⟩) hD
  have hge : (0 : Int) ≤ (i : Int) := Int.natCast_nonneg _
  clear hM hD hf
  go_enter Tryz.func74, Tryz.ntmps74
  go_wp2_with fail
  refine hfi.mono ?_
  rintro e w' ⟨rfl, rfl⟩
  go_wp2_with fail
  go_ret
  exact ⟨rfl, rfl⟩
theorem rmuxAdd_full (B y b mb : Nat) (Q : List QRow) (lost : Int) (F FD : Nat → Prop) (m : DevM) (w : World) (hM : RMuxIs B w y Q lost F) (hD : RDIs B w b mb m FD) (h8 : Q.length = 8) (hf : findQ Q m.p.code = -1) :
    Calls Tryz.prog 74 #[.pointer (some ⟨y, 0, none⟩), .pointer (some ⟨b, 0, none⟩)] w fun e w' => e = .returned (.int .i64 150) ∧ w' = w := by
  obtain ⟨⟨κ, vl, vs, hM, _⟩, _⟩ := hM
  have hfi := rmuxFind_any B y Q lost κ vl vs m.p.code w hM (by omega)
  rw [hf] at hfi
  have p1 : w.cell? ⟨b, 0, none⟩ = some (.int .u32 m.p.code) := RDIs.code (q := ⟨b, mb, m, 0⟩) hD
  obtain ⟨A, cl, rfl⟩ := own_slice hM.list
  have hcy := hM.blk.cell
  have hge : (8 : Int) ≤ (Q.length : Int) := by omega
  clear hM hD hf
  go_enter Tryz.func74, Tryz.ntmps74
  go_wp2_with fail
  refine hfi.mono ?_
  rintro e w' ⟨rfl, rfl⟩
  go_wp2_with fail
  go_ret
  exact ⟨rfl, rfl⟩
theorem rptr_info : (Tryz.prog.info? 38).map (fun i => (i.zero, i.size, i.bytes)) = some (some (.pointer none), 1, 8) := by kernel_rfl
theorem int_info : (Tryz.prog.info? 3).map (fun i => (i.zero, i.size, i.bytes)) = some (some (.int .i64 0), 1, 8) := by kernel_rfl
open Classical in
/-- The new device's blocks and the new rows in their colours. -/
noncomputable def rtint (κ : Nat → Option Nat) (s m e n : Nat) (FD : Nat → Prop) : Nat → Option Nat := fun g => if FD g then some (2 * n + 11) else if s ≤ g then (if g < m then some 1 else if g < e then some 2 else none) else κ g
theorem RMuxAt.added {B y b mb mid : Nat} {Q : List QRow} {lost : Int} {κ : Nat → Option Nat} {vl vs vl' vs' : Value} {FD : Nat → Prop} {m : DevM} {w W : World} (h : RMuxAt B w y Q lost κ vl vs) (hD : RDIs B w b mb m FD) (hi : m.Inv) (hdj : ∀ g, κ g ≠ none → ¬ FD g)
    (hk : Keep (fun g => Of κ 0 g ∨ Of κ 1 g ∨ Of κ 2 g) w W) (hb : Blk W y 152 #[vl', vs', .int .i64 lost])
    (hl : W.ownsRow 0 38 1 vl' (Q.length + 1) (Q.map qptr ++ [.pointer (some ⟨b, 0, none⟩)])) (hs : W.ownsRow 0 3 1 vs' (Q.length + 1) (Q.map qseen ++ [.int .i64 0]))
    (hm1 : w.heap.size ≤ mid) (hm2 : mid ≤ W.heap.size) (hv' : ∀ g, vl'.ownBlock = some g → Of κ 1 g ∨ (w.heap.size ≤ g ∧ g < mid)) (hs' : ∀ g, vs'.ownBlock = some g → Of κ 2 g ∨ (mid ≤ g ∧ g < W.heap.size)) :
    RMuxAt B W y (Q ++ [⟨b, mb, m, 0⟩]) lost (rtint κ w.heap.size mid W.heap.size Q.length FD) vl' vs' := by
  have hlt : ∀ t g, Of κ t g → g < w.heap.size := fun t g hg => (h.lo g (by rw [show κ g = some t from hg]; simp)).2
  have hnf : ∀ t g, Of κ t g → ¬ FD g := fun t g hg => hdj g (by rw [show κ g = some t from hg]; simp)
  have hold : ∀ t g, Of κ t g → Of (rtint κ w.heap.size mid W.heap.size Q.length FD) t g := fun t g hg => by
    have := hlt t g hg
    unfold Of rtint
    rw [if_neg (hnf t g hg), if_neg (by omega)]
    exact hg
  have hFl : ∀ g, FD g → g < w.heap.size := fun g hg => (hD.lo g hg).2
  have hlo : ∀ g, rtint κ w.heap.size mid W.heap.size Q.length FD g ≠ none → B ≤ g ∧ g < W.heap.size := fun g hg => by
    have hB := h.Ble
    have hs := hk.size
    unfold rtint at hg
    split at hg
    · have := hD.lo g (by assumption); omega
    · split at hg
      · split at hg
        · omega
        · split at hg
          · omega
          · exact absurd rfl hg
      · have := h.lo g hg; omega
  have hget : ∀ i q, (Q ++ [⟨b, mb, m, 0⟩] : List QRow)[i]? = some q → Q[i]? = some q ∨ (i = Q.length ∧ q = ⟨b, mb, m, 0⟩) := fun i q hq => by
    rw [List.getElem?_append] at hq
    split at hq
    · exact .inl hq
    · rename_i hn
      have : i - Q.length = 0 := by
        rcases Nat.eq_zero_or_pos (i - Q.length) with h0 | h0
        · exact h0
        · rw [List.getElem?_eq_none (by simp; omega)] at hq; cases hq
      rw [this] at hq
      simp at hq
      exact .inr ⟨by omega, hq.symm⟩
  refine { blk := hb, list := ?_, seen := ?_, dev := fun i q hq => ?_, ky := hold _ _ h.ky, kv := fun g hg => ?_, ks := fun g hg => ?_, lo := hlo }
  · rw [List.length_append, List.map_append]; exact hl
  · rw [List.length_append, List.map_append]; exact hs
  · rcases hget i q hq with h1 | ⟨rfl, rfl⟩
    · refine ⟨?_, (h.dev i q h1).2⟩
      obtain ⟨⟨κ', A, c, vv, val, cb, hA, hF⟩, _⟩ := (h.dev i q h1).1.keepS hk (fun g hg h2 => by rcases h2 with h2 | h2 | h2 <;> exact (hg.ne (by omega)) h2)
      exact ⟨⟨κ', A, c, vv, val, cb, hA, fun g hg => hold _ _ (hF g hg)⟩, fun g hg => hlo g (by rw [show rtint _ _ _ _ _ _ g = _ from hg]; simp)⟩
    · refine ⟨?_, hi⟩
      obtain ⟨⟨κ', A, c, vv, val, cb, hA, hF⟩, _⟩ := hD.keepS hk (fun g hg h2 => by rcases h2 with h2 | h2 | h2 <;> exact hnf _ g h2 hg)
      exact ⟨⟨κ', A, c, vv, val, cb, hA, fun g hg => by unfold Of rtint; rw [if_pos (hF g hg)]⟩, fun g hg => hlo g (by rw [show rtint _ _ _ _ _ _ g = _ from hg]; simp)⟩
  · rcases hv' g hg with h1 | ⟨h1, h2⟩
    · exact hold _ _ h1
    · unfold Of rtint
      rw [if_neg (fun hx => by have := hFl g hx; omega), if_pos h1, if_pos h2]
  · rcases hs' g hg with h1 | ⟨h1, h2⟩
    · exact hold _ _ h1
    · unfold Of rtint
      rw [if_neg (fun hx => by have := hFl g hx; omega), if_pos (by omega), if_neg (by omega), if_pos h2]
end Go.Proofs.YtlldgfejcjnpkaaGreat
