/- The base of the laws, part 12: contracts and plain lemmas, no statement. -/
import Derived.Test.YtlldgfejcjnpkaaGreatBase2
import Derived.Test.YtlldgfejcjnpkaaGreatBase3
import Derived.Test.YtlldgfejcjnpkaaGreatBase5
import Derived.Deep.OwnRows
set_option linter.unusedVariables false
/- The reference's dog and valve (parapetref10, parapetref11): structs inside a block. -/
namespace Go.Proofs.YtlldgfejcjnpkaaGreat
open Go.RowKit
set_option maxHeartbeats 4000000
set_option maxRecDepth 100000

/-- A stretch of a block's cells. -/
def seg (pre mid post : List Value) : Array Value := (pre ++ mid ++ post).toArray
theorem seg_get (pre mid post : List Value) (i : Nat) (hi : i < mid.length) : (seg pre mid post)[pre.length + i]? = mid[i]? := by
  unfold seg
  simp [List.getElem?_append, hi]
theorem seg_set (pre mid post : List Value) (i : Nat) (x : Value) (hi : i < mid.length) : (seg pre mid post).setIfInBounds (pre.length + i) x = seg pre (mid.set i x) post := by
  unfold seg
  rw [List.setIfInBounds_toArray, List.append_assoc, List.set_append_right _ _ (by omega), Nat.add_sub_cancel_left, List.set_append_left _ _ hi, List.append_assoc]
section
variable {w : World} {b : Nat} {t : TypeId} {pre mid post : List Value}
theorem Blk.seg_cell (h : Blk w b t (seg pre mid post)) {o : Nat} (ho : pre.length = o) (i : Nat) (hi : i < mid.length) : w.cell? ⟨b, o + i, none⟩ = mid[i]? := by
  subst ho
  rw [h.cell, seg_get pre mid post i hi]
theorem Blk.seg_set (h : Blk w b t (seg pre mid post)) {o : Nat} (ho : pre.length = o) (i : Nat) (hi : i < mid.length) (x : Value) : Blk (w.setCell ⟨b, o + i, none⟩ x) b t (seg pre (mid.set i x) post) := by
  subst ho
  have := h.set_ (pre.length + i) x
  rwa [Go.Proofs.YtlldgfejcjnpkaaGreat.seg_set pre mid post i x hi] at this
end
/-- The dog's cells. -/
def rdogCs (limit since : Int) : List Value := [.int .i64 limit, .int .i64 since]
theorem rdogTicks_any (b o : Nat) (t : TypeId) (pre post : List Value) (limit since n : Int) (w : World) (hb : Blk w b t (seg pre (rdogCs limit since) post)) (ho : pre.length = o) (hs : 0 ≤ since) (hl : since ≤ limit) (hl2 : limit ≤ 1048576) (hn : 0 ≤ n) :
    Calls Tryz.prog 78 #[.pointer (some ⟨b, o, none⟩), .int .i64 n] w fun e w' => e = .returned (.bool (ticksM limit since n).2) ∧ Blk w' b t (seg pre (rdogCs limit (ticksM limit since n).1) post) ∧ Keep (fun x => x = b) w w' ∧ w'.heap.size = w.heap.size := by
  have c0 := hb.seg_cell ho 0 (by simp [rdogCs])
  have c1 := hb.seg_cell ho 1 (by simp [rdogCs])
  have hf := hb.frozen
  have hw1 : IntKind.i64.wrap (limit - since) = limit - since := IntWalk.i64_in _ (by omega)
  simp [rdogCs] at c0 c1
  by_cases h1 : limit ≤ since
  · have e1 : ticksM limit since n = (since, false) := by unfold ticksM; rw [if_pos h1]
    rw [e1]
    clear e1
    go_enter Tryz.func78, Tryz.ntmps78
    go_wp2_with fail
    go_big_quiet (fail)
    go_wp2_with fail
    go_ret
    exact ⟨rfl, hb.drewN _, (Keep.refl _ _).drewN _, rfl⟩
  by_cases h2 : limit - since ≤ n
  · have e1 : ticksM limit since n = (limit, true) := by unfold ticksM; rw [if_neg h1, if_pos h2]
    rw [e1]
    clear e1
    go_enter Tryz.func78, Tryz.ntmps78
    go_wp2_with fail
    go_big_quiet (fail)
    have hb2 := hb.drewN nq
    have hk2 := (Keep.refl (fun x => x = b) w).drewN nq
    have hs2 : Hid ((w.drewN nq).heap.size = w.heap.size) := Lib.hid rfl
    generalize w.drewN nq = W2 at *
    clear c0 c1
    have c0 := hb2.seg_cell ho 0 (by simp [rdogCs])
    have c1 := hb2.seg_cell ho 1 (by simp [rdogCs])
    simp [rdogCs] at c0 c1
    go_wp2_with fail
    go_big_quiet (fail)
    have hb3 := hb2.drewN nq
    have hk3 := hk2.drewN nq
    have hs3 : Hid ((W2.drewN nq).heap.size = w.heap.size) := Lib.hid hs2.out
    generalize W2.drewN nq = W3 at *
    clear c0 c1
    have c0 := hb3.seg_cell ho 0 (by simp [rdogCs])
    have c1 := hb3.seg_cell ho 1 (by simp [rdogCs])
    have hf3 := hb3.frozen
    simp [rdogCs] at c0 c1
    go_wp2_with fail
    go_ret
    exact ⟨rfl, by simpa [rdogCs] using hb3.seg_set ho 1 (by simp [rdogCs]) (.int .i64 limit), hk3.setCell (p := ⟨b, o + 1, none⟩) (fun _ => rfl) _, by simp [World.setCell, hs3.out]⟩
  · have e1 : ticksM limit since n = (since + n, false) := by unfold ticksM; rw [if_neg h1, if_neg h2]
    rw [e1]
    have hw2 : IntKind.i64.wrap (since + n) = since + n := IntWalk.i64_in _ (by omega)
    clear e1
    go_enter Tryz.func78, Tryz.ntmps78
    go_wp2_with fail
    go_big_quiet (fail)
    have hb2 := hb.drewN nq
    have hk2 := (Keep.refl (fun x => x = b) w).drewN nq
    have hs2 : Hid ((w.drewN nq).heap.size = w.heap.size) := Lib.hid rfl
    generalize w.drewN nq = W2 at *
    clear c0 c1
    have c0 := hb2.seg_cell ho 0 (by simp [rdogCs])
    have c1 := hb2.seg_cell ho 1 (by simp [rdogCs])
    simp [rdogCs] at c0 c1
    go_wp2_with fail
    go_big_quiet (fail)
    have hb3 := hb2.drewN nq
    have hk3 := hk2.drewN nq
    have hs3 : Hid ((W2.drewN nq).heap.size = w.heap.size) := Lib.hid hs2.out
    generalize W2.drewN nq = W3 at *
    clear c0 c1
    have c0 := hb3.seg_cell ho 0 (by simp [rdogCs])
    have c1 := hb3.seg_cell ho 1 (by simp [rdogCs])
    have hf3 := hb3.frozen
    simp [rdogCs] at c0 c1
    go_wp2_with fail
    go_ret
    exact ⟨rfl, by simpa [rdogCs] using hb3.seg_set ho 1 (by simp [rdogCs]) (.int .i64 (since + n)), hk3.setCell (p := ⟨b, o + 1, none⟩) (fun _ => rfl) _, by simp [World.setCell, hs3.out]⟩
theorem rv_made_zero (n : Nat) : madeCells #[Value.int .u8 0] n = (u8c (List.replicate n 0)).toArray := by
  apply Array.ext
  · simp [madeCells, u8c]
  · intro i h1 h2
    have hm : i % 1 = 0 := Nat.mod_one i
    simp [madeCells, u8c, hm]
/-- The valve's cells. -/
def rvCs (n : Int) (V : ValveM) (vv : Value) : List Value := [.int .i64 n, .bool V.running, .bool V.held, .bool V.fresh, .int .i64 V.latched, vv, .bool V.value.isSome]
/-- What the value's cell holds. -/
def RVal (w : World) (vv : Value) (x : Option (List UInt8)) : Prop :=
  match x with
  | none => vv = .slice none 0 0
  | some l => w.ownsRow 0 5 1 vv l.length (u8c l)
theorem RVal.keep {w w' : World} {S : Nat → Prop} {vv : Value} {x : Option (List UInt8)} (h : RVal w vv x) (hk : Keep S w w') (hx : ∀ g, vv.ownBlock = some g → ¬ S g) : RVal w' vv x := by
  cases x with
  | none => exact h
  | some b => exact ownsRow_keep h hk hx
theorem rv_cells {b o : Nat} {t : TypeId} {pre post : List Value} {n : Int} {V : ValveM} {vv : Value} {w : World} (hb : Blk w b t (seg pre (rvCs n V vv) post)) (ho : pre.length = o) :
    w.cell? ⟨b, o, none⟩ = some (.int .i64 n) ∧ w.cell? ⟨b, o + 1, none⟩ = some (.bool V.running) ∧ w.cell? ⟨b, o + 2, none⟩ = some (.bool V.held) ∧ w.cell? ⟨b, o + 3, none⟩ = some (.bool V.fresh) ∧ w.cell? ⟨b, o + 4, none⟩ = some (.int .i64 V.latched) ∧ w.cell? ⟨b, o + 5, none⟩ = some vv ∧ w.cell? ⟨b, o + 6, none⟩ = some (.bool V.value.isSome) :=
  ⟨hb.seg_cell ho 0 (by simp [rvCs]), hb.seg_cell ho 1 (by simp [rvCs]), hb.seg_cell ho 2 (by simp [rvCs]), hb.seg_cell ho 3 (by simp [rvCs]), hb.seg_cell ho 4 (by simp [rvCs]), hb.seg_cell ho 5 (by simp [rvCs]), hb.seg_cell ho 6 (by simp [rvCs])⟩
section
variable (b o : Nat) (t : TypeId) (pre post : List Value) (n : Int) (V : ValveM) (vv : Value) (w : World)
/-- Behind a call that writes the valve's cells alone. -/
def RvTo (V' : ValveM) (vv' : Value) (w' : World) : Prop := Blk w' b t (seg pre (rvCs n V' vv') post) ∧ Keep (fun x => x = b) w w' ∧ w'.heap.size = w.heap.size
theorem rvTrip_any (code : Int) (hb : Blk w b t (seg pre (rvCs n V vv) post)) (ho : pre.length = o) (hc : code ≠ 0) :
    Calls Tryz.prog 131 #[.pointer (some ⟨b, o, none⟩), .int .i64 code] w fun e w' => e = .returned (.bool (V.trip code).2) ∧ RvTo b t pre post n w (V.trip code).1 (.slice none 0 0) w' := by
  obtain ⟨c0, c1, c2, c3, c4, c5, c6⟩ := rv_cells hb ho
  have hf := hb.frozen
  obtain ⟨running, held, fresh, latched, value⟩ := V
  simp only at c0 c1 c2 c3 c4 c5 c6
  have hk : ∀ x y z u, Keep (fun x => x = b) w ((((w.setCell ⟨b, o + 6, none⟩ x).setCell ⟨b, o + 5, none⟩ y).setCell ⟨b, o + 3, none⟩ z).setCell ⟨b, o + 4, none⟩ u) := fun x y z u => ((((Keep.refl (fun x => x = b) w).setCell (p := ⟨b, o + 6, none⟩) (fun _ => rfl) _).setCell (p := ⟨b, o + 5, none⟩) (fun _ => rfl) _).setCell (p := ⟨b, o + 3, none⟩) (fun _ => rfl) _).setCell (p := ⟨b, o + 4, none⟩) (fun _ => rfl) _
  have hk3 : ∀ x y z, Keep (fun x => x = b) w (((w.setCell ⟨b, o + 6, none⟩ x).setCell ⟨b, o + 5, none⟩ y).setCell ⟨b, o + 3, none⟩ z) := fun x y z => (((Keep.refl (fun x => x = b) w).setCell (p := ⟨b, o + 6, none⟩) (fun _ => rfl) _).setCell (p := ⟨b, o + 5, none⟩) (fun _ => rfl) _).setCell (p := ⟨b, o + 3, none⟩) (fun _ => rfl) _
  by_cases hl : latched = 0
  · subst hl
    have e1 : (ValveM.mk running held fresh 0 value).trip code = (⟨running, held, false, code, none⟩, true) := by unfold ValveM.trip; rw [if_neg hc]; rfl
    rw [e1]
    clear e1
    go_enter Tryz.func131, Tryz.ntmps131
    go_wp2_with fail
    go_ret
    refine ⟨rfl, ?_, hk _ _ _ _, by simp [World.setCell]⟩
    simpa [rvCs] using (((hb.seg_set ho 6 (by simp [rvCs]) (.bool false)).seg_set ho 5 (by simp [rvCs]) (.slice none 0 0)).seg_set ho 3 (by simp [rvCs]) (.bool false)).seg_set ho 4 (by simp [rvCs]) (.int .i64 code)
  · have e1 : (ValveM.mk running held fresh latched value).trip code = (⟨running, held, false, latched, none⟩, false) := by unfold ValveM.trip; rw [if_neg hc]; simp [hl]
    rw [e1]
    have g1 : (latched != 0) = true := by simpa using hl
    clear e1
    go_enter Tryz.func131, Tryz.ntmps131
    go_wp2_with fail
    go_ret
    refine ⟨rfl, ?_, hk3 _ _ _, by simp [World.setCell]⟩
    simpa [rvCs] using ((hb.seg_set ho 6 (by simp [rvCs]) (.bool false)).seg_set ho 5 (by simp [rvCs]) (.slice none 0 0)).seg_set ho 3 (by simp [rvCs]) (.bool false)
theorem rvRun_any (on : Bool) (hb : Blk w b t (seg pre (rvCs n V vv) post)) (ho : pre.length = o) :
    Calls Tryz.prog 112 #[.pointer (some ⟨b, o, none⟩), .bool on] w fun e w' => e = .returned (.tuple #[]) ∧ RvTo b t pre post n w (V.run on) (if V.running = on then vv else .slice none 0 0) w' := by
  obtain ⟨c0, c1, c2, c3, c4, c5, c6⟩ := rv_cells hb ho
  have hf := hb.frozen
  by_cases he : V.running = on
  · have e1 : V.run on = V := by unfold ValveM.run; rw [if_pos he]
    rw [e1, if_pos he]
    have hq : ∀ W, (binOp .eql 4 (.bool V.running) (.bool on)).run Tryz.prog W = .ok (.bool true) W := by
      rw [he]
      cases on <;> exact fun _ => by kernel_rfl
    go_enter Tryz.func112, Tryz.ntmps112
    go_wp2_with fail
    first | go_end0 | refine bodyPost_ret (results_none rfl _ _ _) rfl ?_
    exact ⟨rfl, hb, Keep.refl _ _, rfl⟩
  · have e1 : V.run on = { V with running := on, held := false, value := none } := by unfold ValveM.run; rw [if_neg he]
    rw [e1, if_neg he]
    have hq : ∀ W, (binOp .eql 4 (.bool V.running) (.bool on)).run Tryz.prog W = .ok (.bool false) W := by
      cases hr : V.running <;> cases on <;> first | exact absurd hr he | exact fun _ => by kernel_rfl
    obtain ⟨running, held, fresh, latched, value⟩ := V
    simp only at *
    clear he e1
    go_enter Tryz.func112, Tryz.ntmps112
    go_wp2_with fail
    go_end0
    refine ⟨rfl, ?_, ((((Keep.refl (fun x => x = b) w).setCell (p := ⟨b, o + 1, none⟩) (fun _ => rfl) _).setCell (p := ⟨b, o + 2, none⟩) (fun _ => rfl) _).setCell (p := ⟨b, o + 6, none⟩) (fun _ => rfl) _).setCell (p := ⟨b, o + 5, none⟩) (fun _ => rfl) _, by simp [World.setCell]⟩
    simpa [rvCs] using (((hb.seg_set ho 1 (by simp [rvCs]) (.bool on)).seg_set ho 2 (by simp [rvCs]) (.bool false)).seg_set ho 6 (by simp [rvCs]) (.bool false)).seg_set ho 5 (by simp [rvCs]) (.slice none 0 0)
theorem rvHold_any (on : Bool) (hb : Blk w b t (seg pre (rvCs n V vv) post)) (ho : pre.length = o) :
    Calls Tryz.prog 113 #[.pointer (some ⟨b, o, none⟩), .bool on] w fun e w' => e = .returned (.tuple #[]) ∧ RvTo b t pre post n w (V.hold on) vv w' := by
  obtain ⟨c0, c1, c2, c3, c4, c5, c6⟩ := rv_cells hb ho
  have hf := hb.frozen
  obtain ⟨running, held, fresh, latched, value⟩ := V
  unfold ValveM.hold
  simp only at *
  cases on <;> cases running <;>
  · go_enter Tryz.func113, Tryz.ntmps113
    go_wp2_with fail
    go_end0
    refine ⟨rfl, ?_, (Keep.refl (fun x => x = b) w).setCell (p := ⟨b, o + 2, none⟩) (fun _ => rfl) _, by simp [World.setCell]⟩
    first | simpa [rvCs] using hb.seg_set ho 2 (by simp [rvCs]) (.bool false) | simpa [rvCs] using hb.seg_set ho 2 (by simp [rvCs]) (.bool true)
theorem rvCome_any (hb : Blk w b t (seg pre (rvCs n V vv) post)) (ho : pre.length = o) (hfr : V.fresh = true → V.latched ≠ 0) :
    Calls Tryz.prog 158 #[.pointer (some ⟨b, o, none⟩)] w fun e w' => e = .returned (.tuple #[]) ∧ RvTo b t pre post n w V.come vv w' := by
  obtain ⟨c0, c1, c2, c3, c4, c5, c6⟩ := rv_cells hb ho
  have hf := hb.frozen
  obtain ⟨running, held, fresh, latched, value⟩ := V
  unfold ValveM.come
  simp only at *
  by_cases hl : latched = 0
  · subst hl
    have hfr2 : fresh = false := by cases fresh <;> simp_all
    subst hfr2
    go_enter Tryz.func158, Tryz.ntmps158
    go_wp2_with fail
    first | go_end0 | refine bodyPost_ret (results_none rfl _ _ _) rfl ?_
    exact ⟨rfl, hb, Keep.refl _ _, rfl⟩
  · have g1 : (latched != 0) = true := by simpa using hl
    rw [g1]
    go_enter Tryz.func158, Tryz.ntmps158
    go_wp2_with fail
    go_end0
    refine ⟨rfl, ?_, (Keep.refl (fun x => x = b) w).setCell (p := ⟨b, o + 3, none⟩) (fun _ => rfl) _, by simp [World.setCell]⟩
    simpa [rvCs] using hb.seg_set ho 3 (by simp [rvCs]) (.bool true)
theorem rvRequest_any (hb : Blk w b t (seg pre (rvCs n V vv) post)) (ho : pre.length = o) :
    Calls Tryz.prog 139 #[.pointer (some ⟨b, o, none⟩)] w fun e w' => e = .returned (.bool V.request) ∧ w' = w := by
  obtain ⟨c0, c1, c2, c3, c4, c5, c6⟩ := rv_cells hb ho
  obtain ⟨running, held, fresh, latched, value⟩ := V
  unfold ValveM.request
  simp only at *
  by_cases hl : latched = 0
  · subst hl
    cases running <;> cases fresh <;>
    · go_enter Tryz.func139, Tryz.ntmps139
      go_wp2_with fail
      go_ret
      exact ⟨rfl, rfl⟩
  · have g1 : (latched != 0) = true := by simpa using hl
    rw [g1]
    cases running <;> cases fresh <;>
    · go_enter Tryz.func139, Tryz.ntmps139
      go_wp2_with fail
      go_ret
      exact ⟨rfl, rfl⟩
theorem rvAck_any (hb : Blk w b t (seg pre (rvCs n V vv) post)) (ho : pre.length = o) :
    Calls Tryz.prog 119 #[.pointer (some ⟨b, o, none⟩)] w fun e w' => e = .returned (.bool V.request) ∧ RvTo b t pre post n w V.ack vv w' := by
  have hf := hb.frozen
  obtain ⟨c0, c1, c2, c3, c4, c5, c6⟩ := rv_cells hb ho
  have hreq := rvRequest_any b o t pre post n V vv w hb ho
  cases hr : V.request with
  | false =>
    have e1 : V.ack = V := by unfold ValveM.ack; rw [hr]; rfl
    rw [e1]
    rw [hr] at hreq
    go_enter Tryz.func119, Tryz.ntmps119
    go_wp2_with fail
    refine hreq.mono ?_
    rintro e w1 ⟨rfl, rfl⟩
    go_wp2_with fail
    go_ret
    exact ⟨rfl, hb, Keep.refl _ _, rfl⟩
  | true =>
    have e1 : V.ack = { V with latched := 0, fresh := false } := by unfold ValveM.ack; rw [hr]; rfl
    rw [e1]
    rw [hr] at hreq
    obtain ⟨running, held, fresh, latched, value⟩ := V
    simp only at *
    clear e1 hr
    go_enter Tryz.func119, Tryz.ntmps119
    go_wp2_with fail
    refine hreq.mono ?_
    rintro e w1 ⟨rfl, rfl⟩
    go_wp2_with fail
    go_ret
    refine ⟨rfl, ?_, ((Keep.refl (fun x => x = b) w1).setCell (p := ⟨b, o + 4, none⟩) (fun _ => rfl) _).setCell (p := ⟨b, o + 3, none⟩) (fun _ => rfl) _, by simp [World.setCell]⟩
    simpa [rvCs] using (hb.seg_set ho 4 (by simp [rvCs]) (.int .i64 0)).seg_set ho 3 (by simp [rvCs]) (.bool false)
theorem rvTake_any (A : Option Addr) (m c Br : Nat) (l : List UInt8) (hb : Blk w b t (seg pre (rvCs n V vv) post)) (ho : pre.length = o) (hv : RVal w vv V.value) (hr : Reads w Br 1 A m (u8c l)) (hB : Br ≤ w.heap.size) (hm : m ≤ 1000000) (hA : ∀ ad, A = some ad → ad.block ≠ b) :
    Calls Tryz.prog 114 #[.pointer (some ⟨b, o, none⟩), .slice A m c] w fun e w' => e = .returned (.tuple #[]) ∧ ∃ vv', Blk w' b t (seg pre (rvCs n (V.take l) vv') post) ∧ RVal w' vv' (V.take l).value ∧ Keep (fun x => x = b) w w' ∧ (vv' = vv ∨ ∀ x, vv'.ownBlock = some x → w.heap.size ≤ x ∧ x < w'.heap.size) := by
  obtain ⟨i0, hi0, hz0, hz1, hz2⟩ := info_parts byte_info
  have hl : l.length = m := by have := hr.1; simpa [u8c] using this
  have Hl := Lib.hid hl
  obtain ⟨c0, c1, c2, c3, c4, c5, c6⟩ := rv_cells hb ho
  have hf := hb.frozen
  have hblt := hb.lt
  clear hl
  cases hq : (V.running && V.latched == 0) with
  | false =>
    have e1 : V.take l = V := by unfold ValveM.take; rw [hq]; rfl
    rw [e1]
    obtain ⟨running, held, fresh, latched, value⟩ := V
    simp only at *
    cases running with
    | false =>
      go_enter Tryz.func114, Tryz.ntmps114
      go_wp2_with fail
      first | go_end0 | refine bodyPost_ret (results_none rfl _ _ _) rfl ?_
      exact ⟨rfl, vv, hb, hv, Keep.refl _ _, .inl rfl⟩
    | true =>
      have g1 : (latched == 0) = false := by simpa using hq
      go_enter Tryz.func114, Tryz.ntmps114
      go_wp2_with fail
      first | go_end0 | refine bodyPost_ret (results_none rfl _ _ _) rfl ?_
      exact ⟨rfl, vv, hb, hv, Keep.refl _ _, .inl rfl⟩
  | true =>
    have e1 : V.take l = { V with value := some l } := by unfold ValveM.take; rw [hq]; rfl
    rw [e1]
    obtain ⟨running, held, fresh, latched, value⟩ := V
    simp only at *
    obtain ⟨hq1, hq2⟩ : running = true ∧ latched = 0 := by simpa using hq
    subst hq1 hq2
    clear e1 hq
    have hb1 : Blk (w.setCell ⟨b, o + 6, none⟩ (.bool true)) b t (seg pre [.int .i64 n, .bool true, .bool held, .bool fresh, .int .i64 0, vv, .bool true] post) := by simpa [rvCs] using hb.seg_set ho 6 (by simp [rvCs]) (.bool true)
    have hk1 : Keep (fun x => x = b) w (w.setCell ⟨b, o + 6, none⟩ (.bool true)) := (Keep.refl (fun x => x = b) w).setCell (p := ⟨b, o + 6, none⟩) (fun _ => rfl) _
    have hz1' : (w.setCell ⟨b, o + 6, none⟩ (.bool true)).heap.size = w.heap.size := by simp [World.setCell]
    have hmade : ((w.setCell ⟨b, o + 6, none⟩ (.bool true)).alloc (.cells #[] 5)).ownsRow w.heap.size 5 1 (.slice (some ⟨w.heap.size, 0, none⟩) 0 0) 0 [] := by
      have := World.ownsRow_made (base := w.heap.size) (e := 5) (size := 1) (w.setCell ⟨b, o + 6, none⟩ (.bool true)) #[] 0 (by rw [hz1']; exact Nat.le_refl _) (by unfold maxLen; omega) rfl
      rwa [hz1'] at this
    have hr1 : Reads ((w.setCell ⟨b, o + 6, none⟩ (.bool true)).alloc (.cells #[] 5)) Br 1 A m (u8c l) := by
      refine Reads.alloc ⟨hr.1, fun hn => ?_⟩ (by rw [hz1']; exact hB) _
      obtain ⟨ad, e, hlt, hcl⟩ := hr.2 hn
      refine ⟨ad, e, hlt, fun j y hy => ?_⟩
      rw [World.cell?_setCell_other _ _ _ _ (fun e2 => hA ad e (by rw [← block_of_add ad j, ← e2]))]
      exact hcl j y hy
    go_enter Tryz.func114, Tryz.ntmps114
    go_wp2_with (at_builtin; refine wpList_append_any _ rfl (.tmp 19) (.tmp 20) _ rfl w.heap.size 5 i0 _ 1 1 Tryz.underlying22 hi0 hz0 hz1 hz2 rfl (by omega) (.slice (some ⟨w.heap.size, 0, none⟩) 0 0) 0 [] rfl hmade Br A m c (u8c l) rfl hr1 (u8c_one l) (by unfold maxLen; omega) (by omega) (by simp [World.setCell]) ?_; intro v2 w2 hown2 hg2 hat2; obtain ⟨A2, c2', rfl⟩ := own_slice hown2; have hb2 := (hb1.alloc (.cells #[] 5)).grown hg2 (fun h => by simp [Value.ownBlock] at h; omega); obtain ⟨d0, d1, d2, d3, d4, d5, d6⟩ := rv_cells (V := ⟨true, held, fresh, 0, some l⟩) hb2 ho; have hf2 := hb2.frozen)
    all_goals
      first | go_end0 | refine bodyPost_ret (results_none rfl _ _ _) rfl ?_
      have hs2 := hg2.size
      simp [World.setCell] at hs2
      have hne3 : (Value.slice A2 (0 + m) c2').ownBlock ≠ some b := fun h => by have := (hown2.lt b h).1; omega
      refine ⟨rfl, .slice A2 (0 + m) c2', ?_, ?_, ?_, .inr fun x hx => ?_⟩
      · simpa [rvCs] using hb2.seg_set ho 5 (by simp) (.slice A2 (0 + m) c2')
      · have h1 := ownsRow_keep (S := fun x => x = b) hown2 ((Keep.refl (fun x => x = b) w2).setCell (p := ⟨b, o + 5, none⟩) (fun _ => rfl) (.slice A2 (0 + m) c2')) (fun x hx e => hne3 (e ▸ hx))
        show World.ownsRow _ 0 _ _ _ l.length _
        rw [Hl.out]
        have h2 : ∀ {v : Value} {N : Nat} {xs : List Value} {W : World}, W.ownsRow w.heap.size 5 1 v N xs → W.ownsRow 0 5 1 v N xs := fun h => ⟨h.1, h.2.imp id (fun ⟨g, cap, cur, e, _, r⟩ => ⟨g, cap, cur, e, Nat.zero_le _, r⟩)⟩
        simpa using h2 h1
      · exact (((hk1.alloc _).grown hg2 (fun k h hk => by simp [Value.ownBlock] at h; omega)).setCell (p := ⟨b, o + 5, none⟩) (fun _ => rfl) _)
      · have h1 := hown2.lt x hx
        have h2 : (w2.setCell ⟨b, o + 5, none⟩ (.slice A2 m c2')).heap.size = w2.heap.size := by simp [World.setCell]
        rw [h2]; exact h1
theorem rvOutput_any (N : Nat) (hb : Blk w b t (seg pre (rvCs N V vv) post)) (ho : pre.length = o) (hv : RVal w vv V.value) (hN : N ≤ 8) (hval : ∀ l, V.value = some l → l.length = N) :
    Calls Tryz.prog 138 #[.pointer (some ⟨b, o, none⟩)] w fun e w' => ∃ x, e = .returned (.tuple #[x, .bool V.on]) ∧ w'.ownsRow w.heap.size 5 1 x N (u8c (V.output N)) ∧ Below w.heap.size w w' := by
  obtain ⟨i0, hi0, hz0, hz1, hz2⟩ := info_parts byte_info
  obtain ⟨c0, c1, c2, c3, c4, c5, c6⟩ := rv_cells hb ho
  cases hon : V.on with
  | true =>
    obtain ⟨running, held, fresh, latched, value⟩ := V
    obtain ⟨l, rfl⟩ : ∃ l, value = some l := by
      cases value with
      | none => simp [ValveM.on] at hon
      | some l => exact ⟨l, rfl⟩
    obtain ⟨h1, h2⟩ : running = true ∧ held = false := by simpa [ValveM.on] using hon
    subst h1 h2
    simp only at *
    have hll := hval l rfl
    subst hll
    have hown : w.ownsRow 0 5 1 vv l.length (u8c l) := hv
    obtain ⟨A, c, rfl⟩ := own_slice hown
    have hr := Reads.of_own hown
    have hout : (ValveM.mk true false fresh latched (some l)).output (l.length : Nat) = l := by simp [ValveM.output, ValveM.on]
    rw [hout]
    replace c6 : w.cell? ⟨b, o + 6, none⟩ = some (.bool true) := c6
    have hblt := hb.lt
    have hA1 : ∀ (W : World) (ob : Obj) (i : Nat), b < W.heap.size → (W.alloc ob).cell? ⟨b, i, none⟩ = W.cell? ⟨b, i, none⟩ := fun W ob i hlt => cellA hlt ob i
    clear hon hout hval
    go_enter Tryz.func138, Tryz.ntmps138
    go_wp2_with (at_builtin; refine wpList_append_any _ rfl (.tmp 21) (.tmp 25) _ rfl w.heap.size 5 i0 _ 1 1 Tryz.underlying22 hi0 hz0 hz1 hz2 rfl (by omega) (.slice (some ⟨w.heap.size, 0, none⟩) 0 0) 0 [] rfl (World.ownsRow_made w #[] 0 (Nat.le_refl _) (by unfold maxLen; omega) rfl) w.heap.size A l.length c (u8c l) rfl (hr.alloc (Nat.le_refl _) _) (u8c_one l) (by unfold maxLen; omega) (by omega) (by simp) ?_; intro v1 w1 hown1 hg1 hat1; obtain ⟨A1, c1', rfl⟩ := own_slice hown1)
    all_goals
      refine bodyPost_ret (v := .tuple #[.slice A1 (0 + l.length) c1', .bool true]) (by simp [results, Tryz.results138, go_sem]) rfl ⟨_, rfl, by simpa using hown1, ((Below.refl _ _).alloc (Nat.le_refl _) _).grown hg1 (by simp) (fun k hk => by simp [Value.ownBlock] at hk; omega)⟩
  | false =>
    have hout : V.output N = List.replicate N 0 := by simp [ValveM.output, hon]
    rw [hout]
    have hmk := run_make_row' (P := Tryz.prog) 22 5 (.int .u8 0) 1 Tryz.underlying22 byte_info rfl .i64 .i64 N (by omega) (by omega)
    have hmade : (w.alloc (.cells (madeCells #[.int .u8 0] N) 5)).ownsRow w.heap.size 5 1 (.slice (some ⟨w.heap.size, 0, none⟩) N N) N (u8c (List.replicate N 0)) := by
      rw [rv_made_zero]
      have := own_full w (u8c (List.replicate N 0)).toArray 5 w.heap.size (Nat.le_refl _) (by simp [u8c, maxLen]; omega)
      simpa [u8c] using this
    have hbl : Below w.heap.size w (w.alloc (.cells (madeCells #[.int .u8 0] N) 5)) := (Below.refl _ _).alloc (Nat.le_refl _) _
    obtain ⟨running, held, fresh, latched, value⟩ := V
    simp only at *
    have hon' : (running && !held && value.isSome) = false := hon
    generalize value.isSome = so at *
    clear hout hv hval hon
    cases running <;> cases held <;> cases so <;> first
      | (simp at hon'; done)
      | (go_enter Tryz.func138, Tryz.ntmps138
         go_wp2_with fail
         refine bodyPost_ret (v := .tuple #[.slice (some ⟨w.heap.size, 0, none⟩) N N, .bool false]) (by simp [results, Tryz.results138, go_sem]) rfl ⟨_, rfl, hmade, hbl⟩)
end
end Go.Proofs.YtlldgfejcjnpkaaGreat
