/- The base of the laws, part 6: contracts and plain lemmas, no statement. -/
import Derived.Test.YtbkkfkbgcklkgaaGreatBase5
import Derived.Deep.OwnRows
import Derived.Deep.RegionHeld3
/- The reference's dog and valve (parapetref10, parapetref11): structs inside a block. -/
namespace Go.Proofs.YtbkkfkbgcklkgaaGreat
open Go.RowKit
set_option maxHeartbeats 4000000
set_option maxRecDepth 100000

/-- A stretch of a block's cells. -/
def seg (pre mid post : List Value) : Array Value := (pre ++ mid ++ post).toArray
theorem seg_get (pre mid post : List Value) (i : Nat) (hi : i < mid.length) : (seg pre mid post)[pre.length + i]? = mid[i]? := by
  unfold seg
  simp [List.getElem?_append, hi]
theorem seg_set (pre mid post : List Value) (i : Nat) (x : Value) (hi : i < mid.length) : (seg pre mid post).setIfInBounds (pre.length + i) x = seg pre (mid.set i x) post := by
  unfold seg
  rw [List.setIfInBounds_toArray, List.append_assoc, List.set_append_right _ _ (by omega), Nat.add_sub_cancel_left, List.set_append_left _ _ hi, List.append_assoc]
section
variable {w : World} {b : Nat} {t : TypeId} {pre mid post : List Value}
theorem Blk.seg_cell (h : Blk w b t (seg pre mid post)) {o : Nat} (ho : pre.length = o) (i : Nat) (hi : i < mid.length) : w.cell? ⟨b, o + i, none⟩ = mid[i]? := by
  subst ho
  rw [h.cell, seg_get pre mid post i hi]
theorem Blk.seg_set (h : Blk w b t (seg pre mid post)) {o : Nat} (ho : pre.length = o) (i : Nat) (hi : i < mid.length) (x : Value) : Blk (w.setCell ⟨b, o + i, none⟩ x) b t (seg pre (mid.set i x) post) := by
  subst ho
  have := h.set_ (pre.length + i) x
  rwa [Go.Proofs.YtbkkfkbgcklkgaaGreat.seg_set pre mid post i x hi] at this
end
/-- The dog's cells. -/
def rdogCs (limit since : Int) : List Value := [.int .i64 limit, .int .i64 since]
theorem rdogTicks_any (b o : Nat) (t : TypeId) (pre post : List Value) (limit since n : Int) (w : World) (hb : Blk w b t (seg pre (rdogCs limit since) post)) (ho : pre.length = o) (hs : 0 ≤ since) (hl : since ≤ limit) (hl2 : limit ≤ 1048576) (hn : 0 ≤ n) :
    Calls Tryz.prog 114 #[.pointer (some ⟨b, o, none⟩), .int .i64 n] w fun e w' => e = .returned (.bool (ticksM limit since n).2) ∧ Blk w' b t (seg pre (rdogCs limit (ticksM limit since n).1) post) ∧ Keep (fun x => x = b) w w' ∧ w'.heap.size = w.heap.size := by
  have c0 := hb.seg_cell ho 0 (by simp [rdogCs])
  have c1 := hb.seg_cell ho 1 (by simp [rdogCs])
  have hf := hb.frozen
  have hw1 : IntKind.i64.wrap (limit - since) = limit - since := IntWalk.i64_in _ (by omega)
  simp [rdogCs] at c0 c1
  by_cases h1 : limit ≤ since
  · have e1 : ticksM limit since n = (since, false) := by unfold ticksM; rw [if_pos h1]
    rw [e1]
    clear e1
    go_enter Tryz.func114, Tryz.ntmps114
    go_wp2_with fail
    go_big_quiet (fail)
    go_wp2_with fail
    go_ret
    exact ⟨rfl, hb.drewN _, (Keep.refl _ _).drewN _, rfl⟩
  by_cases h2 : limit - since ≤ n
  · have e1 : ticksM limit since n = (limit, true) := by unfold ticksM; rw [if_neg h1, if_pos h2]
    rw [e1]
    clear e1
    go_enter Tryz.func114, Tryz.ntmps114
    go_wp2_with fail
    go_big_quiet (fail)
    have hb2 := hb.drewN nq
    have hk2 := (Keep.refl (fun x => x = b) w).drewN nq
    have hs2 : Hid ((w.drewN nq).heap.size = w.heap.size) := Lib.hid rfl
    generalize w.drewN nq = W2 at *
    clear c0 c1
    have c0 := hb2.seg_cell ho 0 (by simp [rdogCs])
    have c1 := hb2.seg_cell ho 1 (by simp [rdogCs])
    simp [rdogCs] at c0 c1
    go_wp2_with fail
    go_big_quiet (fail)
    have hb3 := hb2.drewN nq
    have hk3 := hk2.drewN nq
    have hs3 : Hid ((W2.drewN nq).heap.size = w.heap.size) := Lib.hid hs2.out
    generalize W2.drewN nq = W3 at *
    clear c0 c1
    have c0 := hb3.seg_cell ho 0 (by simp [rdogCs])
    have c1 := hb3.seg_cell ho 1 (by simp [rdogCs])
    have hf3 := hb3.frozen
    simp [rdogCs] at c0 c1
    go_wp2_with fail
    go_ret
    exact ⟨rfl, by simpa [rdogCs] using hb3.seg_set ho 1 (by simp [rdogCs]) (.int .i64 limit), hk3.setCell (p := ⟨b, o + 1, none⟩) (fun _ => rfl) _, by simp [World.setCell, hs3.out]⟩
  · have e1 : ticksM limit since n = (since + n, false) := by unfold ticksM; rw [if_neg h1, if_neg h2]
    rw [e1]
    have hw2 : IntKind.i64.wrap (since + n) = since + n := IntWalk.i64_in _ (by omega)
    clear e1
    go_enter Tryz.func114, Tryz.ntmps114
    go_wp2_with fail
    go_big_quiet (fail)
    have hb2 := hb.drewN nq
    have hk2 := (Keep.refl (fun x => x = b) w).drewN nq
    have hs2 : Hid ((w.drewN nq).heap.size = w.heap.size) := Lib.hid rfl
    generalize w.drewN nq = W2 at *
    clear c0 c1
    have c0 := hb2.seg_cell ho 0 (by simp [rdogCs])
    have c1 := hb2.seg_cell ho 1 (by simp [rdogCs])
    simp [rdogCs] at c0 c1
    go_wp2_with fail
    go_big_quiet (fail)
    have hb3 := hb2.drewN nq
    have hk3 := hk2.drewN nq
    have hs3 : Hid ((W2.drewN nq).heap.size = w.heap.size) := Lib.hid hs2.out
    generalize W2.drewN nq = W3 at *
    clear c0 c1
    have c0 := hb3.seg_cell ho 0 (by simp [rdogCs])
    have c1 := hb3.seg_cell ho 1 (by simp [rdogCs])
    have hf3 := hb3.frozen
    simp [rdogCs] at c0 c1
    go_wp2_with fail
    go_ret
    exact ⟨rfl, by simpa [rdogCs] using hb3.seg_set ho 1 (by simp [rdogCs]) (.int .i64 (since + n)), hk3.setCell (p := ⟨b, o + 1, none⟩) (fun _ => rfl) _, by simp [World.setCell, hs3.out]⟩
theorem rv_made_zero (n : Nat) : madeCells #[Value.int .u8 0] n = (u8c (List.replicate n 0)).toArray := by
  apply Array.ext
  · simp [madeCells, u8c]
  · intro i h1 h2
    have hm : i % 1 = 0 := Nat.mod_one i
    simp [madeCells, u8c, hm]
/-- The valve's cells. -/
def rvCs (n : Int) (V : ValveM) (vv : Value) : List Value := [.int .i64 n, .bool V.running, .bool V.held, .bool V.fresh, .int .i64 V.latched, vv, .bool V.value.isSome]
/-- What the value's cell holds. -/
def RVal (w : World) (vv : Value) (x : Option (List UInt8)) : Prop :=
  match x with
  | none => vv = .slice none 0 0
  | some l => w.ownsRow 0 5 1 vv l.length (u8c l)
theorem RVal.keep {w w' : World} {S : Nat → Prop} {vv : Value} {x : Option (List UInt8)} (h : RVal w vv x) (hk : Keep S w w') (hx : ∀ g, vv.ownBlock = some g → ¬ S g) : RVal w' vv x := by
  cases x with
  | none => exact h
  | some b => exact ownsRow_keep h hk hx
theorem rv_cells {b o : Nat} {t : TypeId} {pre post : List Value} {n : Int} {V : ValveM} {vv : Value} {w : World} (hb : Blk w b t (seg pre (rvCs n V vv) post)) (ho : pre.length = o) :
    w.cell? ⟨b, o, none⟩ = some (.int .i64 n) ∧ w.cell? ⟨b, o + 1, none⟩ = some (.bool V.running) ∧ w.cell? ⟨b, o + 2, none⟩ = some (.bool V.held) ∧ w.cell? ⟨b, o + 3, none⟩ = some (.bool V.fresh) ∧ w.cell? ⟨b, o + 4, none⟩ = some (.int .i64 V.latched) ∧ w.cell? ⟨b, o + 5, none⟩ = some vv ∧ w.cell? ⟨b, o + 6, none⟩ = some (.bool V.value.isSome) :=
  ⟨hb.seg_cell ho 0 (by simp [rvCs]), hb.seg_cell ho 1 (by simp [rvCs]), hb.seg_cell ho 2 (by simp [rvCs]), hb.seg_cell ho 3 (by simp [rvCs]), hb.seg_cell ho 4 (by simp [rvCs]), hb.seg_cell ho 5 (by simp [rvCs]), hb.seg_cell ho 6 (by simp [rvCs])⟩
section
variable (b o : Nat) (t : TypeId) (pre post : List Value) (n : Int) (V : ValveM) (vv : Value) (w : World)
/-- Behind a call that writes the valve's cells alone. -/
def RvTo (V' : ValveM) (vv' : Value) (w' : World) : Prop := Blk w' b t (seg pre (rvCs n V' vv') post) ∧ Keep (fun x => x = b) w w' ∧ w'.heap.size = w.heap.size
theorem rvTrip_any (code : Int) (hb : Blk w b t (seg pre (rvCs n V vv) post)) (ho : pre.length = o) (hc : code ≠ 0) :
    Calls Tryz.prog 148 #[.pointer (some ⟨b, o, none⟩), .int .i64 code] w fun e w' => e = .returned (.bool (V.trip code).2) ∧ RvTo b t pre post n w (V.trip code).1 (.slice none 0 0) w' := by
  obtain ⟨c0, c1, c2, c3, c4, c5, c6⟩ := rv_cells hb ho
  have hf := hb.frozen
  obtain ⟨running, held, fresh, latched, value⟩ := V
  simp only at c0 c1 c2 c3 c4 c5 c6
  have hk : ∀ x y z u, Keep (fun x => x = b) w ((((w.setCell ⟨b, o + 6, none⟩ x).setCell ⟨b, o + 5, none⟩ y).setCell ⟨b, o + 3, none⟩ z).setCell ⟨b, o + 4, none⟩ u) := fun x y z u => ((((Keep.refl (fun x => x = b) w).setCell (p := ⟨b, o + 6, none⟩) (fun _ => rfl) _).setCell (p := ⟨b, o + 5, none⟩) (fun _ => rfl) _).setCell (p := ⟨b, o + 3, none⟩) (fun _ => rfl) _).setCell (p := ⟨b, o + 4, none⟩) (fun _ => rfl) _
  have hk3 : ∀ x y z, Keep (fun x => x = b) w (((w.setCell ⟨b, o + 6, none⟩ x).setCell ⟨b, o + 5, none⟩ y).setCell ⟨b, o + 3, none⟩ z) := fun x y z => (((Keep.refl (fun x => x = b) w).setCell (p := ⟨b, o + 6, none⟩) (fun _ => rfl) _).setCell (p := ⟨b, o + 5, none⟩) (fun _ => rfl) _).setCell (p := ⟨b, o + 3, none⟩) (fun _ => rfl) _
  by_cases hl : latched = 0
  · subst hl
    have e1 : (ValveM.mk running held fresh 0 value).trip code = (⟨running, held, false, code, none⟩, true) := by unfold ValveM.trip; rw [if_neg hc]; rfl
    rw [e1]
    clear e1
    go_enter Tryz.func148, Tryz.ntmps148
    go_wp2_with fail
    go_ret
    refine ⟨rfl, ?_, hk _ _ _ _, by simp [World.setCell]⟩
    simpa [rvCs] using (((hb.seg_set ho 6 (by simp [rvCs]) (.bool false)).seg_set ho 5 (by simp [rvCs]) (.slice none 0 0)).seg_set ho 3 (by simp [rvCs]) (.bool false)).seg_set ho 4 (by simp [rvCs]) (.int .i64 code)
  · have e1 : (ValveM.mk running held fresh latched value).trip code = (⟨running, held, false, latched, none⟩, false) := by unfold ValveM.trip; rw [if_neg hc]; simp [hl]
    rw [e1]
    have g1 : (latched != 0) = true := by simpa using hl
    clear e1
    go_enter Tryz.func148, Tryz.ntmps148
    go_wp2_with fail
    go_ret
    refine ⟨rfl, ?_, hk3 _ _ _, by simp [World.setCell]⟩
    simpa [rvCs] using ((hb.seg_set ho 6 (by simp [rvCs]) (.bool false)).seg_set ho 5 (by simp [rvCs]) (.slice none 0 0)).seg_set ho 3 (by simp [rvCs]) (.bool false)
theorem rvRun_any (on : Bool) (hb : Blk w b t (seg pre (rvCs n V vv) post)) (ho : pre.length = o) :
    Calls Tryz.prog 104 #[.pointer (some ⟨b, o, none⟩), .bool on] w fun e w' => e = .returned (.tuple #[]) ∧ RvTo b t pre post n w (V.run on) (if V.running = on then vv else .slice none 0 0) w' := by
  obtain ⟨c0, c1, c2, c3, c4, c5, c6⟩ := rv_cells hb ho
  have hf := hb.frozen
  by_cases he : V.running = on
  · have e1 : V.run on = V := by unfold ValveM.run; rw [if_pos he]
    rw [e1, if_pos he]
    have hq : ∀ W, (binOp .eql 4 (.bool V.running) (.bool on)).run Tryz.prog W = .ok (.bool true) W := by
      rw [he]
      cases on <;> exact fun _ => by kernel_rfl
    go_enter Tryz.func104, Tryz.ntmps104
    go_wp2_with fail
    first | go_end0 | refine bodyPost_ret (results_none rfl _ _ _) rfl ?_
    exact ⟨rfl, hb, Keep.refl _ _, rfl⟩
  · have e1 : V.run on = { V with running := on, held := false, value := none } := by unfold ValveM.run; rw [if_neg he]
    rw [e1, if_neg he]
    have hq : ∀ W, (binOp .eql 4 (.bool V.running) (.bool on)).run Tryz.prog W = .ok (.bool false) W := by
      cases hr : V.running <;> cases on <;> first | exact absurd hr he | exact fun _ => by kernel_rfl
    obtain ⟨running, held, fresh, latched, value⟩ := V
    simp only at *
    clear he e1
    go_enter Tryz.func104, Tryz.ntmps104
    go_wp2_with fail
    go_end0
    refine ⟨rfl, ?_, ((((Keep.refl (fun x => x = b) w).setCell (p := ⟨b, o + 1, none⟩) (fun _ => rfl) _).setCell (p := ⟨b, o + 2, none⟩) (fun _ => rfl) _).setCell (p := ⟨b, o + 6, none⟩) (fun _ => rfl) _).setCell (p := ⟨b, o + 5, none⟩) (fun _ => rfl) _, by simp [World.setCell]⟩
    simpa [rvCs] using (((hb.seg_set ho 1 (by simp [rvCs]) (.bool on)).seg_set ho 2 (by simp [rvCs]) (.bool false)).seg_set ho 6 (by simp [rvCs]) (.bool false)).seg_set ho 5 (by simp [rvCs]) (.slice none 0 0)
theorem rvHold_any (on : Bool) (hb : Blk w b t (seg pre (rvCs n V vv) post)) (ho : pre.length = o) :
    Calls Tryz.prog 105 #[.pointer (some ⟨b, o, none⟩), .bool on] w fun e w' => e = .returned (.tuple #[]) ∧ RvTo b t pre post n w (V.hold on) vv w' := by
  obtain ⟨c0, c1, c2, c3, c4, c5, c6⟩ := rv_cells hb ho
  have hf := hb.frozen
  obtain ⟨running, held, fresh, latched, value⟩ := V
  unfold ValveM.hold
  simp only at *
  cases on <;> cases running <;>
  · go_enter Tryz.func105, Tryz.ntmps105
    go_wp2_with fail
    go_end0
    refine ⟨rfl, ?_, (Keep.refl (fun x => x = b) w).setCell (p := ⟨b, o + 2, none⟩) (fun _ => rfl) _, by simp [World.setCell]⟩
    first | simpa [rvCs] using hb.seg_set ho 2 (by simp [rvCs]) (.bool false) | simpa [rvCs] using hb.seg_set ho 2 (by simp [rvCs]) (.bool true)
theorem rvCome_any (hb : Blk w b t (seg pre (rvCs n V vv) post)) (ho : pre.length = o) (hfr : V.fresh = true → V.latched ≠ 0) :
    Calls Tryz.prog 147 #[.pointer (some ⟨b, o, none⟩)] w fun e w' => e = .returned (.tuple #[]) ∧ RvTo b t pre post n w V.come vv w' := by
  obtain ⟨c0, c1, c2, c3, c4, c5, c6⟩ := rv_cells hb ho
  have hf := hb.frozen
  obtain ⟨running, held, fresh, latched, value⟩ := V
  unfold ValveM.come
  simp only at *
  by_cases hl : latched = 0
  · subst hl
    have hfr2 : fresh = false := by cases fresh <;> simp_all
    subst hfr2
    go_enter Tryz.func147, Tryz.ntmps147
    go_wp2_with fail
    first | go_end0 | refine bodyPost_ret (results_none rfl _ _ _) rfl ?_
    exact ⟨rfl, hb, Keep.refl _ _, rfl⟩
  · have g1 : (latched != 0) = true := by simpa using hl
    rw [g1]
    go_enter Tryz.func147, Tryz.ntmps147
    go_wp2_with fail
    go_end0
    refine ⟨rfl, ?_, (Keep.refl (fun x => x = b) w).setCell (p := ⟨b, o + 3, none⟩) (fun _ => rfl) _, by simp [World.setCell]⟩
    simpa [rvCs] using hb.seg_set ho 3 (by simp [rvCs]) (.bool true)
theorem rvRequest_any (hb : Blk w b t (seg pre (rvCs n V vv) post)) (ho : pre.length = o) :
    Calls Tryz.prog 125 #[.pointer (some ⟨b, o, none⟩)] w fun e w' => e = .returned (.bool V.request) ∧ w' = w := by
  obtain ⟨c0, c1, c2, c3, c4, c5, c6⟩ := rv_cells hb ho
  obtain ⟨running, held, fresh, latched, value⟩ := V
  unfold ValveM.request
  simp only at *
  by_cases hl : latched = 0
  · subst hl
    cases running <;> cases fresh <;>
    · go_enter Tryz.func125, Tryz.ntmps125
      go_wp2_with fail
      go_ret
      exact ⟨rfl, rfl⟩
  · have g1 : (latched != 0) = true := by simpa using hl
    rw [g1]
    cases running <;> cases fresh <;>
    · go_enter Tryz.func125, Tryz.ntmps125
      go_wp2_with fail
      go_ret
      exact ⟨rfl, rfl⟩
theorem rvAck_any (hb : Blk w b t (seg pre (rvCs n V vv) post)) (ho : pre.length = o) :
    Calls Tryz.prog 115 #[.pointer (some ⟨b, o, none⟩)] w fun e w' => e = .returned (.bool V.request) ∧ RvTo b t pre post n w V.ack vv w' := by
  have hf := hb.frozen
  obtain ⟨c0, c1, c2, c3, c4, c5, c6⟩ := rv_cells hb ho
  have hreq := rvRequest_any b o t pre post n V vv w hb ho
  cases hr : V.request with
  | false =>
    have e1 : V.ack = V := by unfold ValveM.ack; rw [hr]; rfl
    rw [e1]
    rw [hr] at hreq
    go_enter Tryz.func115, Tryz.ntmps115
    go_wp2_with fail
    refine hreq.mono ?_
    rintro e w1 ⟨rfl, rfl⟩
    go_wp2_with fail
    go_ret
    exact ⟨rfl, hb, Keep.refl _ _, rfl⟩
  | true =>
    have e1 : V.ack = { V with latched := 0, fresh := false } := by unfold ValveM.ack; rw [hr]; rfl
    rw [e1]
    rw [hr] at hreq
    obtain ⟨running, held, fresh, latched, value⟩ := V
    simp only at *
    clear e1 hr
    go_enter Tryz.func115, Tryz.ntmps115
    go_wp2_with fail
    refine hreq.mono ?_
    rintro e w1 ⟨rfl, rfl⟩
    go_wp2_with fail
    go_ret
    refine ⟨rfl, ?_, ((Keep.refl (fun x => x = b) w1).setCell (p := ⟨b, o + 4, none⟩) (fun _ => rfl) _).setCell (p := ⟨b, o + 3, none⟩) (fun _ => rfl) _, by simp [World.setCell]⟩
    simpa [rvCs] using (hb.seg_set ho 4 (by simp [rvCs]) (.int .i64 0)).seg_set ho 3 (by simp [rvCs]) (.bool false)
theorem rvTake_any (A : Option Addr) (m c Br : Nat) (l : List UInt8) (hb : Blk w b t (seg pre (rvCs n V vv) post)) (ho : pre.length = o) (hv : RVal w vv V.value) (hr : Reads w Br 1 A m (u8c l)) (hB : Br ≤ w.heap.size) (hm : m ≤ 1000000) (hA : ∀ ad, A = some ad → ad.block ≠ b) :
    Calls Tryz.prog 106 #[.pointer (some ⟨b, o, none⟩), .slice A m c] w fun e w' => e = .returned (.tuple #[]) ∧ ∃ vv', Blk w' b t (seg pre (rvCs n (V.take l) vv') post) ∧ RVal w' vv' (V.take l).value ∧ Keep (fun x => x = b) w w' ∧ (vv' = vv ∨ ∀ x, vv'.ownBlock = some x → w.heap.size ≤ x ∧ x < w'.heap.size) := by
  obtain ⟨i0, hi0, hz0, hz1, hz2⟩ := info_parts byte_info
  have hl : l.length = m := by have := hr.1; simpa [u8c] using this
  have Hl := Lib.hid hl
  obtain ⟨c0, c1, c2, c3, c4, c5, c6⟩ := rv_cells hb ho
  have hf := hb.frozen
  have hblt := hb.lt
  clear hl
  cases hq : (V.running && V.latched == 0) with
  | false =>
    have e1 : V.take l = V := by unfold ValveM.take; rw [hq]; rfl
    rw [e1]
    obtain ⟨running, held, fresh, latched, value⟩ := V
    simp only at *
    cases running with
    | false =>
      go_enter Tryz.func106, Tryz.ntmps106
      go_wp2_with fail
      first | go_end0 | refine bodyPost_ret (results_none rfl _ _ _) rfl ?_
      exact ⟨rfl, vv, hb, hv, Keep.refl _ _, .inl rfl⟩
    | true =>
      have g1 : (latched == 0) = false := by simpa using hq
      go_enter Tryz.func106, Tryz.ntmps106
      go_wp2_with fail
      first | go_end0 | refine bodyPost_ret (results_none rfl _ _ _) rfl ?_
      exact ⟨rfl, vv, hb, hv, Keep.refl _ _, .inl rfl⟩
  | true =>
    have e1 : V.take l = { V with value := some l } := by unfold ValveM.take; rw [hq]; rfl
    rw [e1]
    obtain ⟨running, held, fresh, latched, value⟩ := V
    simp only at *
    obtain ⟨hq1, hq2⟩ : running = true ∧ latched = 0 := by simpa using hq
    subst hq1 hq2
    clear e1 hq
    have hb1 : Blk (w.setCell ⟨b, o + 6, none⟩ (.bool true)) b t (seg pre [.int .i64 n, .bool true, .bool held, .bool fresh, .int .i64 0, vv, .bool true] post) := by simpa [rvCs] using hb.seg_set ho 6 (by simp [rvCs]) (.bool true)
    have hk1 : Keep (fun x => x = b) w (w.setCell ⟨b, o + 6, none⟩ (.bool true)) := (Keep.refl (fun x => x = b) w).setCell (p := ⟨b, o + 6, none⟩) (fun _ => rfl) _
    have hz1' : (w.setCell ⟨b, o + 6, none⟩ (.bool true)).heap.size = w.heap.size := by simp [World.setCell]
    have hmade : ((w.setCell ⟨b, o + 6, none⟩ (.bool true)).alloc (.cells #[] 5)).ownsRow w.heap.size 5 1 (.slice (some ⟨w.heap.size, 0, none⟩) 0 0) 0 [] := by
      have := World.ownsRow_made (base := w.heap.size) (e := 5) (size := 1) (w.setCell ⟨b, o + 6, none⟩ (.bool true)) #[] 0 (by rw [hz1']; exact Nat.le_refl _) (by unfold maxLen; omega) rfl
      rwa [hz1'] at this
    have hr1 : Reads ((w.setCell ⟨b, o + 6, none⟩ (.bool true)).alloc (.cells #[] 5)) Br 1 A m (u8c l) := by
      refine Reads.alloc ⟨hr.1, fun hn => ?_⟩ (by rw [hz1']; exact hB) _
      obtain ⟨ad, e, hlt, hcl⟩ := hr.2 hn
      refine ⟨ad, e, hlt, fun j y hy => ?_⟩
      rw [World.cell?_setCell_other _ _ _ _ (fun e2 => hA ad e (by rw [← block_of_add ad j, ← e2]))]
      exact hcl j y hy
    go_enter Tryz.func106, Tryz.ntmps106
    go_wp2_with (at_builtin; refine wpList_append_any _ rfl (.tmp 19) (.tmp 20) _ rfl w.heap.size 5 i0 _ 1 1 Tryz.underlying41 hi0 hz0 hz1 hz2 rfl (by omega) (.slice (some ⟨w.heap.size, 0, none⟩) 0 0) 0 [] rfl hmade Br A m c (u8c l) rfl hr1 (u8c_one l) (by unfold maxLen; omega) (by omega) (by simp [World.setCell]) ?_; intro v2 w2 hown2 hg2 hat2; obtain ⟨A2, c2', rfl⟩ := own_slice hown2; have hb2 := (hb1.alloc (.cells #[] 5)).grown hg2 (fun h => by simp [Value.ownBlock] at h; omega); obtain ⟨d0, d1, d2, d3, d4, d5, d6⟩ := rv_cells (V := ⟨true, held, fresh, 0, some l⟩) hb2 ho; have hf2 := hb2.frozen)
    all_goals
      first | go_end0 | refine bodyPost_ret (results_none rfl _ _ _) rfl ?_
      have hs2 := hg2.size
      simp [World.setCell] at hs2
      have hne3 : (Value.slice A2 (0 + m) c2').ownBlock ≠ some b := fun h => by have := (hown2.lt b h).1; omega
      refine ⟨rfl, .slice A2 (0 + m) c2', ?_, ?_, ?_, .inr fun x hx => ?_⟩
      · simpa [rvCs] using hb2.seg_set ho 5 (by simp) (.slice A2 (0 + m) c2')
      · have h1 := ownsRow_keep (S := fun x => x = b) hown2 ((Keep.refl (fun x => x = b) w2).setCell (p := ⟨b, o + 5, none⟩) (fun _ => rfl) (.slice A2 (0 + m) c2')) (fun x hx e => hne3 (e ▸ hx))
        show World.ownsRow _ 0 _ _ _ l.length _
        rw [Hl.out]
        have h2 : ∀ {v : Value} {N : Nat} {xs : List Value} {W : World}, W.ownsRow w.heap.size 5 1 v N xs → W.ownsRow 0 5 1 v N xs := fun h => ⟨h.1, h.2.imp id (fun ⟨g, cap, cur, e, _, r⟩ => ⟨g, cap, cur, e, Nat.zero_le _, r⟩)⟩
        simpa using h2 h1
      · exact (((hk1.alloc _).grown hg2 (fun k h hk => by simp [Value.ownBlock] at h; omega)).setCell (p := ⟨b, o + 5, none⟩) (fun _ => rfl) _)
      · have h1 := hown2.lt x hx
        have h2 : (w2.setCell ⟨b, o + 5, none⟩ (.slice A2 m c2')).heap.size = w2.heap.size := by simp [World.setCell]
        rw [h2]; exact h1
theorem rvOutput_any (N : Nat) (hb : Blk w b t (seg pre (rvCs N V vv) post)) (ho : pre.length = o) (hv : RVal w vv V.value) (hN : N ≤ 8) (hval : ∀ l, V.value = some l → l.length = N) :
    Calls Tryz.prog 124 #[.pointer (some ⟨b, o, none⟩)] w fun e w' => ∃ x, e = .returned (.tuple #[x, .bool V.on]) ∧ w'.ownsRow w.heap.size 5 1 x N (u8c (V.output N)) ∧ Below w.heap.size w w' := by
  obtain ⟨i0, hi0, hz0, hz1, hz2⟩ := info_parts byte_info
  obtain ⟨c0, c1, c2, c3, c4, c5, c6⟩ := rv_cells hb ho
  cases hon : V.on with
  | true =>
    obtain ⟨running, held, fresh, latched, value⟩ := V
    obtain ⟨l, rfl⟩ : ∃ l, value = some l := by
      cases value with
      | none => simp [ValveM.on] at hon
      | some l => exact ⟨l, rfl⟩
    obtain ⟨h1, h2⟩ : running = true ∧ held = false := by simpa [ValveM.on] using hon
    subst h1 h2
    simp only at *
    have hll := hval l rfl
    subst hll
    have hown : w.ownsRow 0 5 1 vv l.length (u8c l) := hv
    obtain ⟨A, c, rfl⟩ := own_slice hown
    have hr := Reads.of_own hown
    have hout : (ValveM.mk true false fresh latched (some l)).output (l.length : Nat) = l := by simp [ValveM.output, ValveM.on]
    rw [hout]
    replace c6 : w.cell? ⟨b, o + 6, none⟩ = some (.bool true) := c6
    have hblt := hb.lt
    have hA1 : ∀ (W : World) (ob : Obj) (i : Nat), b < W.heap.size → (W.alloc ob).cell? ⟨b, i, none⟩ = W.cell? ⟨b, i, none⟩ := fun W ob i hlt => cellA hlt ob i
    clear hon hout hval
    go_enter Tryz.func124, Tryz.ntmps124
    go_wp2_with (at_builtin; refine wpList_append_any _ rfl (.tmp 21) (.tmp 25) _ rfl w.heap.size 5 i0 _ 1 1 Tryz.underlying41 hi0 hz0 hz1 hz2 rfl (by omega) (.slice (some ⟨w.heap.size, 0, none⟩) 0 0) 0 [] rfl (World.ownsRow_made w #[] 0 (Nat.le_refl _) (by unfold maxLen; omega) rfl) w.heap.size A l.length c (u8c l) rfl (hr.alloc (Nat.le_refl _) _) (u8c_one l) (by unfold maxLen; omega) (by omega) (by simp) ?_; intro v1 w1 hown1 hg1 hat1; obtain ⟨A1, c1', rfl⟩ := own_slice hown1)
    all_goals
      refine bodyPost_ret (v := .tuple #[.slice A1 (0 + l.length) c1', .bool true]) (by simp [results, Tryz.results124, go_sem]) rfl ⟨_, rfl, by simpa using hown1, ((Below.refl _ _).alloc (Nat.le_refl _) _).grown hg1 (by simp) (fun k hk => by simp [Value.ownBlock] at hk; omega)⟩
  | false =>
    have hout : V.output N = List.replicate N 0 := by simp [ValveM.output, hon]
    rw [hout]
    have hmk := run_make_row' (P := Tryz.prog) 41 5 (.int .u8 0) 1 Tryz.underlying41 byte_info rfl .i64 .i64 N (by omega) (by omega)
    have hmade : (w.alloc (.cells (madeCells #[.int .u8 0] N) 5)).ownsRow w.heap.size 5 1 (.slice (some ⟨w.heap.size, 0, none⟩) N N) N (u8c (List.replicate N 0)) := by
      rw [rv_made_zero]
      have := own_full w (u8c (List.replicate N 0)).toArray 5 w.heap.size (Nat.le_refl _) (by simp [u8c, maxLen]; omega)
      simpa [u8c] using this
    have hbl : Below w.heap.size w (w.alloc (.cells (madeCells #[.int .u8 0] N) 5)) := (Below.refl _ _).alloc (Nat.le_refl _) _
    obtain ⟨running, held, fresh, latched, value⟩ := V
    simp only at *
    have hon' : (running && !held && value.isSome) = false := hon
    generalize value.isSome = so at *
    clear hout hv hval hon
    cases running <;> cases held <;> cases so <;> first
      | (simp at hon'; done)
      | (go_enter Tryz.func124, Tryz.ntmps124
         go_wp2_with fail
         refine bodyPost_ret (v := .tuple #[.slice (some ⟨w.heap.size, 0, none⟩) N N, .bool false]) (by simp [results, Tryz.results124, go_sem]) rfl ⟨_, rfl, hmade, hbl⟩)
end
end Go.Proofs.YtbkkfkbgcklkgaaGreat
/- The reference's log (parapetref12): a slice of all records in a cell of a struct. -/
namespace Go.Proofs.YtbkkfkbgcklkgaaGreat
open Go.RowKit
set_option maxHeartbeats 600000
set_option maxRecDepth 100000

/-- The log in cell off of block b (whose cells are cs, of type t): all records L; F: its row's block. -/
structure LogAt (w : World) (b : Nat) (t : TypeId) (cs : Array Value) (off : Nat) (L : List Rec) (F : Nat → Prop) (A : Option Addr) (c : Nat) : Prop where
  blk : Blk w b t cs
  at_ : cs[off]? = some (.slice A L.length c)
  row : w.ownsRow 0 175 4 (.slice A L.length c) L.length (recsCells L)
  own : ∀ g, (Value.slice A L.length c).ownBlock = some g → F g
  ne : 175 ≠ t
def LogIs (w : World) (b : Nat) (t : TypeId) (cs : Array Value) (off : Nat) (L : List Rec) (F : Nat → Prop) : Prop := ∃ A c, LogAt w b t cs off L F A c

theorem LogIs.keep {w w' : World} {b : Nat} {t : TypeId} {cs cs' : Array Value} {off : Nat} {L : List Rec} {F F' S : Nat → Prop} (h : LogIs w b t cs off L F) (hk : Keep S w w') (hS : ∀ x, F x → ¬ S x) (hF : ∀ x, F x → F' x)
    (hb : Blk w' b t cs') (he : cs'[off]? = cs[off]?) : LogIs w' b t cs' off L F' := by
  obtain ⟨A, c, D⟩ := h
  exact ⟨A, c, hb, he.trans D.at_, ownsRow_keep D.row hk (fun g h => hS g (D.own g h)), fun g h => hF g (D.own g h), D.ne⟩

theorem LogAt.appended {w : World} {b : Nat} {t : TypeId} {cs : Array Value} {off : Nat} {L : List Rec} {F : Nat → Prop} {A : Option Addr} {c : Nat} (D : LogAt w b t cs off L F A c) (r : Rec) {n : Nat} (hn : L.length = n) {o : Obj} {w4 : World} {A' : Option Addr} {c' : Nat}
    (hg : (w.alloc o).drew.grownBy w4 (Value.slice A n c).ownBlock) (hown : w4.ownsRow 0 175 4 (.slice A' (n + 1) c') (n + 1) (recsCells L ++ r.cells.toList))
    (hat : (Value.slice A' (n + 1) c').ownBlock = (Value.slice A n c).ownBlock ∨ (Value.slice A' (n + 1) c').ownBlock = some (w.alloc o).drew.heap.size) :
    LogIs (w4.setCell ⟨b, off, none⟩ (.slice A' (n + 1) c')) b t (cs.setIfInBounds off (.slice A' (n + 1) c')) off (L ++ [r]) (fun x => F x ∨ (w.heap.size ≤ x ∧ x < (w4.setCell ⟨b, off, none⟩ (.slice A' (n + 1) c')).heap.size)) ∧
      Keep (fun x => F x ∨ x = b) w (w4.setCell ⟨b, off, none⟩ (.slice A' (n + 1) c')) := by
  subst hn
  have hlen : off < cs.size := by
    rcases Nat.lt_or_ge off cs.size with h | h
    · exact h
    · have := D.at_; rw [Array.getElem?_eq_none h] at this; cases this
  have hk1 : Keep F w w4 := ((Keep.refl F w).alloc o).drew.grown hg (fun k h _ => D.own k h)
  have hself : Blk w4 b t cs := (D.blk.alloc o).drew.grown hg (own_ne D.row D.blk D.ne)
  have hsz : (w4.setCell ⟨b, off, none⟩ (.slice A' (L.length + 1) c')).heap.size = w4.heap.size := by simp [World.setCell]
  have hk2 : Keep (fun k => k = b) w4 (w4.setCell ⟨b, off, none⟩ (.slice A' (L.length + 1) c')) := (Keep.refl (fun k => k = b) _).setCell (p := ⟨b, off, none⟩) (fun _ => rfl) _
  refine ⟨⟨A', c', hself.set_ off _, by simp [hlen], ?_, ?_, D.ne⟩, (hk1.mono (fun _ _ h => .inl h)).trans (hk2.mono (fun _ _ h => .inr h))⟩
  · rw [List.length_append, recsCells_append]
    refine ownsRow_keep (n := L.length + 1) (xs := recsCells L ++ recsCells [r]) ?_ hk2 ?_
    · simpa [recsCells] using hown
    · rintro g hg' rfl
      exact own_ne hown hself D.ne hg'
  · rintro g hg'
    have hg'' : (Value.slice A' (L.length + 1) c').ownBlock = some g := by
      rw [List.length_append] at hg'; exact hg'
    rw [hsz]
    rcases hat with e | e
    · rw [hg''] at e
      exact .inl (D.own g e.symm)
    · have := (hown.lt g hg'').2
      rw [hg''] at e
      obtain rfl := Option.some.inj e
      exact .inr ⟨by show w.heap.size ≤ (w.alloc o).heap.size; simp, this⟩

theorem refNote_any (b off : Nat) (t : TypeId) (cs : Array Value) (L : List Rec) (F : Nat → Prop) (code s k : Int) (w : World) (h : LogIs w b t cs off L F) (hs : L.length < 1073741823) :
    Calls Tryz.prog 53 #[.pointer (some ⟨b, off, none⟩), .int .i64 code, .int .u32 s, .int .u32 k] w fun e w' =>
      e = .returned (.int .i64 (L.length + 1)) ∧ (∃ v, LogIs w' b t (cs.setIfInBounds off v) off (L ++ [⟨L.length + 1, code, s, k⟩]) (fun x => F x ∨ (w.heap.size ≤ x ∧ x < w'.heap.size))) ∧ Keep (fun x => F x ∨ x = b) w w' := by
  obtain ⟨A, c, D⟩ := h
  have hlen : off < cs.size := by
    rcases Nat.lt_or_ge off cs.size with h | h
    · exact h
    · have := D.at_; rw [Array.getElem?_eq_none h] at this; cases this
  have hC : w.cell? ⟨b, off, none⟩ = some (.slice A L.length c) := (D.blk.cell off).trans D.at_
  have hZ := D.blk.frozen off
  have hA1 : ∀ (W : World) (o : Obj), b < W.heap.size → (W.alloc o).cell? ⟨b, off, none⟩ = W.cell? ⟨b, off, none⟩ := fun W o hlt => cellA hlt o off
  have hblt := D.blk.lt
  obtain ⟨i0, hi0, hz0, hz1, hz2⟩ := info_parts rec_info
  obtain ⟨m, hm⟩ : ∃ m, m = L.length := ⟨_, rfl⟩
  rw [← hm] at hC hs ⊢
  have hat : cs[off]? = some (.slice A m c) := by rw [hm]; exact D.at_
  have Hat := Lib.hid hat
  have Hm := Lib.hid hm
  have hrow := D.row
  rw [← hm] at hrow
  clear hm hat
  have hwr : IntKind.i64.wrap ((m : Int) + 1) = m + 1 := IntWalk.i64_in _ (by omega)
  go_enter Tryz.func53, Tryz.ntmps53
  go_wp2_with fail
  go_region_law (refine step_append_any _ rfl (.tmp 13) (.tmp 24) _ rfl 0 175 i0 _ 4 24 Tryz.underlying78 hi0 hz0 hz1 hz2 rfl (by omega) (.slice A m c) m (recsCells L) rfl (hrow.alloc _) (w.heap.size + 1) (some ⟨w.heap.size, 0, none⟩) 1 1 _ rfl (Reads.of_blk (Blk.new w _ _) (by omega) rfl) (by simp [Value.oneCell']) (by unfold maxLen; omega) (by omega) (Nat.zero_le _) ?_; intro v4 W4 hown4 hg4 hat4; obtain ⟨A4, c4, rfl⟩ := own_slice hown4; have hB4 := (D.blk.alloc (.cells #[.int .i64 (m + 1), .int .i64 code, .int .u32 s, .int .u32 k] 175)).drew.grown hg4 (own_ne hrow D.blk D.ne); have hA4 : W4.cell? ⟨b, off, none⟩ = some (.slice A m c) := (hB4.cell off).trans Hat.out; have hZ4 := hB4.frozen off)
  all_goals
    go_wp2_with fail
    go_ret
    obtain ⟨h1, h2⟩ := D.appended ⟨(m : Int) + 1, code, s, k⟩ Hm.out.symm hg4 hown4 hat4
    exact ⟨rfl, ⟨_, h1⟩, h2⟩
end Go.Proofs.YtbkkfkbgcklkgaaGreat
/- The reference's remainder (parapetref01), plain. -/
namespace Go.Proofs.YtbkkfkbgcklkgaaGreat
open Go.RowKit

def degTo : Nat → Int
  | 0 => -1
  | k + 1 => if (4812730177 : Nat) / 2 ^ k % 2 = 1 then (k : Int) else degTo k
theorem degTo_64 : degTo 64 = 32 := by decide +kernel
theorem degTo_succ (k : Nat) : degTo (k + 1) = if (4812730177 : Nat) / 2 ^ k % 2 = 1 then (k : Int) else degTo k := rfl
theorem xor64 (x y : Int) : bits .xor .u64 x y = ((BitVec.ofInt 64 x ^^^ BitVec.ofInt 64 y).toNat : Int) := by
  unfold bits
  have h := (BitVec.ofInt 64 x ^^^ BitVec.ofInt 64 y).isLt
  exact IntWalk.u64_in ((BitVec.ofInt 64 x ^^^ BitVec.ofInt 64 y).toNat : Int) ⟨by omega, by omega⟩
theorem shl64 (s : BitVec 32) : s.setWidth 64 <<< 1 = (s <<< 1).setWidth 64 ^^^ (if s.msb then 0x100000000#64 else 0#64) := by
  have e : (0x100000000#64) = BitVec.twoPow 64 32 := by decide
  have hm : s.msb = s.getLsbD 31 := by rw [BitVec.msb_eq_getLsbD_last]
  apply BitVec.eq_of_getLsbD_eq
  intro i hi
  rw [hm, e]
  have hx : (if s.getLsbD 31 = true then BitVec.twoPow 64 32 else 0#64).getLsbD i = (s.getLsbD 31 && decide (32 = i)) := by
    cases s.getLsbD 31 with
    | true => simp only [if_true, BitVec.getLsbD_twoPow]; simp
    | false => simp
  simp only [BitVec.getLsbD_xor, hx, BitVec.getLsbD_shiftLeft, BitVec.getLsbD_setWidth]
  by_cases h0 : i < 1
  · have : i = 0 := by omega
    subst this
    simp
  · by_cases h32 : i = 32
    · subst h32
      simp
    · by_cases h31 : i < 32
      · have n32 : ¬ 32 = i := by omega
        have l64 : i - 1 < 64 := by omega
        simp only [hi, h0, h31, n32, l64, decide_true, decide_false, Bool.not_false, Bool.true_and, Bool.and_false, Bool.xor_false]
      · have n32 : ¬ 32 = i := by omega
        have l64 : i - 1 < 64 := by omega
        have g := BitVec.getLsbD_of_ge s (i - 1) (by omega)
        simp only [hi, h0, h31, n32, g, decide_true, decide_false, Bool.not_false, Bool.true_and, Bool.and_false, Bool.false_and, Bool.xor_false]
/-- A remainder's step in 64 bits. -/
theorem rem_step (s : BitVec 32) (b : Bool) : ((s.setWidth 64 <<< 1) ^^^ (if b then 1#64 else 0#64)) ^^^ (if s.msb then 0x11edc6f41#64 else 0#64) = (crcZ s ^^^ bit0 b).setWidth 64 := by
  have e1 : (0x11edc6f41#64) = 0x100000000#64 ^^^ (0x1edc6f41#32).setWidth 64 := by decide
  have e2 : (1#64) = (1#32).setWidth 64 := by decide
  have e3 : (0#64) = (0#32).setWidth 64 := by decide
  have lc : ∀ x y z : BitVec 64, x ^^^ (y ^^^ z) = y ^^^ (x ^^^ z) := fun x y z => by rw [← BitVec.xor_assoc, BitVec.xor_comm x y, BitVec.xor_assoc]
  have cancel : ∀ x y : BitVec 64, x ^^^ (x ^^^ y) = y := fun x y => by rw [← BitVec.xor_assoc, BitVec.xor_self, BitVec.zero_xor]
  unfold crcZ bit0
  rw [shl64]
  cases b <;> cases s.msb <;> simp only [if_true, if_false, Bool.false_eq_true, BitVec.setWidth_xor, BitVec.xor_zero, e1, e2, BitVec.xor_assoc]
  · simp only [cancel]
  · rw [lc ((1#32).setWidth 64), cancel, BitVec.xor_comm ((1#32).setWidth 64)]
theorem up64 (s : BitVec 32) : BitVec.ofInt 64 (s.toNat : Int) = s.setWidth 64 := by
  apply BitVec.eq_of_toNat_eq
  have := s.isLt
  simp
theorem up64_2 (s : BitVec 32) : BitVec.ofInt 64 ((s.toNat : Int) * 2) = s.setWidth 64 <<< 1 := by
  apply BitVec.eq_of_toNat_eq
  have := s.isLt
  simp [BitVec.toNat_shiftLeft, Nat.shiftLeft_eq]
  omega
theorem down64 (s : BitVec 32) : (s.setWidth 64).toNat = s.toNat := by
  have := s.isLt
  simp
  omega
theorem bitsOf_get (c : UInt8) (j : Nat) (hj : j < 8) : (bitsOf c)[j]? = some (c.toBitVec.getLsbD (7 - j)) := by
  unfold bitsOf
  match j, hj with
  | 0, _ => rfl
  | 1, _ => rfl
  | 2, _ => rfl
  | 3, _ => rfl
  | 4, _ => rfl
  | 5, _ => rfl
  | 6, _ => rfl
  | 7, _ => rfl
theorem bitsOf_length (c : UInt8) : (bitsOf c).length = 8 := rfl
end Go.Proofs.YtbkkfkbgcklkgaaGreat
/- The reference's remainder (parapetref01): Degree, Bits, Of at the generator. -/
namespace Go.Proofs.YtbkkfkbgcklkgaaGreat
open Go.RowKit
set_option maxHeartbeats 4000000
set_option maxRecDepth 100000

theorem and1_64 (x : Int) (h0 : 0 ≤ x) (h1 : x < 18446744073709551616) : bits .and .u64 x 1 = x % 2 := bits_mask .u64 64 (by decide) (fun n a b => IntWalk.u64_in n ⟨a, by simp at b; omega⟩) 1 (by decide) x h0 h1
theorem and1_8 (x : Int) (h0 : 0 ≤ x) (h1 : x < 256) : bits .and .u8 x 1 = x % 2 := bits_mask .u8 8 (by decide) (fun n a b => IntWalk.u8_in n ⟨a, by simp at b; omega⟩) 1 (by decide) x h0 h1
theorem gen_bit (k : Nat) : (bits .and .u64 ((4812730177 : Int) / 2 ^ k) 1 != 0) = decide ((4812730177 : Nat) / 2 ^ k % 2 = 1) := by
  have e : (4812730177 : Int) / 2 ^ k = ((4812730177 / 2 ^ k : Nat) : Int) := by simp
  have hle : 4812730177 / 2 ^ k ≤ 4812730177 := Nat.div_le_self _ _
  rw [e]
  generalize 4812730177 / 2 ^ k = y at *
  rw [and1_64 _ (by omega) (by omega), Bool.eq_iff_iff]
  simp
  omega
theorem refDegree_any (w : World) : Calls Tryz.prog 173 #[.int .u64 4812730177] w fun e w' => e = .returned (.int .i64 32) ∧ w' = w := by
  go_enter Tryz.func173, Tryz.ntmps173
  go_wp2_with fail
  go_loopg [3, 4] 64 (fun q v3 v4 wr => ∃ (k : Nat), k + q = 64 ∧ v4 = .int .i64 k ∧ v3 = .int .i64 (degTo k) ∧ wr = w)
  case atStart => exact ⟨0, rfl, rfl, rfl, rfl⟩
  case round =>
    obtain ⟨k, hq, rfl, rfl, rfl⟩ := hrel
    have hs := degTo_succ k
    have hg := gen_bit k
    by_cases hk : k < 64
    · go_wp2_with fail
      · go_roundg (64 - (k + 1))
        case measure => omega
        case rel =>
          rename_i h
          refine ⟨k + 1, by omega, by go_num, ?_, rfl⟩
          rw [hs, if_pos h]
      · go_roundg (64 - (k + 1))
        case measure => omega
        case rel =>
          rename_i h
          refine ⟨k + 1, by omega, by go_num, ?_, rfl⟩
          rw [hs, if_neg h]
    · obtain rfl : k = 64 := by omega
      clear hs hg
      go_wp2_with fail
      go_ret
      exact ⟨by simp [degTo_64], rfl⟩
theorem ofInt_nat64 (s : BitVec 64) : BitVec.ofInt 64 (s.toNat : Int) = s := by simp
theorem msb64 (s : BitVec 32) : (bits .and .u64 ((s.toNat : Int) / 2147483648) 1 != 0) = s.msb := by
  have h := s.isLt
  rw [and1_64 _ (by omega) (by omega), msb32, Bool.eq_iff_iff]
  simp
  omega
theorem rem_nat (s : BitVec 32) (b : Bool) (x : BitVec 64) (h : ((s.setWidth 64 <<< 1) ^^^ (if b then 1#64 else 0#64)) ^^^ (if s.msb then 0x11edc6f41#64 else 0#64) = x) : ((crcZ s ^^^ bit0 b).toNat : Int) = (x.toNat : Int) := by
  rw [← h, rem_step, down64]
theorem rx_ff (s : BitVec 32) (h : s.msb = false) : (s.toNat : Int) * 2 = ((crcZ s ^^^ bit0 false).toNat : Int) := by
  rw [rem_nat s false (s.setWidth 64 <<< 1) (by rw [h]; simp), ← up64_2]
  have := s.isLt
  rw [BitVec.toNat_ofInt]
  omega
theorem rx_ft (s : BitVec 32) (h : s.msb = true) : bits .xor .u64 ((s.toNat : Int) * 2) 4812730177 = ((crcZ s ^^^ bit0 false).toNat : Int) := by
  rw [rem_nat s false (s.setWidth 64 <<< 1 ^^^ 0x11edc6f41#64) (by rw [h]; simp), xor64, up64_2]
  rfl
theorem rx_tf (s : BitVec 32) (h : s.msb = false) : bits .xor .u64 ((s.toNat : Int) * 2) 1 = ((crcZ s ^^^ bit0 true).toNat : Int) := by
  rw [rem_nat s true (s.setWidth 64 <<< 1 ^^^ 1#64) (by rw [h]; simp), xor64, up64_2]
  rfl
theorem rx_tt (s : BitVec 32) (h : s.msb = true) : bits .xor .u64 (bits .xor .u64 ((s.toNat : Int) * 2) 1) 4812730177 = ((crcZ s ^^^ bit0 true).toNat : Int) := by
  rw [rem_nat s true ((s.setWidth 64 <<< 1 ^^^ 1#64) ^^^ 0x11edc6f41#64) (by rw [h]; simp), xor64 ((s.toNat : Int) * 2), up64_2, xor64, ofInt_nat64]
  rfl
theorem crcDef_take {l : List Bool} {k : Nat} (h : k < l.length) : crcDef 0#32 (l.take (k + 1)) = crcZ (crcDef 0#32 (l.take k)) ^^^ bit0 l[k] := by
  unfold crcDef
  rw [List.take_succ_eq_append_getElem h, List.foldl_append]
  rfl
theorem refBits_any (A : Option Addr) (n c : Nat) (l : List Bool) (B : Nat) (w : World) (hr : Reads w B 1 A n (l.map Value.bool)) (hn : n < 1073741824) :
    Calls Tryz.prog 150 #[.slice A n c, .int .u64 4812730177] w fun e w' => e = .returned (.int .u64 ((crcDef 0#32 l).toNat : Int)) ∧ w' = w := by
  have hl : l.length = n := by have := hr.1; simpa using this
  have Hl := Lib.hid hl
  clear hl
  go_enter Tryz.func150, Tryz.ntmps150
  go_wp2_with fail
  refine (refDegree_any w).mono ?_
  rintro e w1 ⟨rfl, rfl⟩
  go_wp2_with fail
  go_loopg [6, 7, 8] n (fun q v6 v7 _v8 wr => ∃ (k : Nat), k + q = n ∧ v7 = .int .i64 k ∧ v6 = .int .u64 ((crcDef 0#32 (l.take k)).toNat : Int) ∧ wr = w1)
  case atStart => exact ⟨0, by omega, rfl, rfl, rfl⟩
  case round =>
    obtain ⟨k, hq, rfl, rfl, rfl⟩ := hrel
    by_cases hk : k < n
    · obtain ⟨ad, u, rfl, hb, hu, hcell⟩ := hr.at_ hk
      have hkl : k < l.length := by rw [Hl.out]; exact hk
      obtain rfl : u = .bool l[k] := by
        simp [hkl] at hu
        exact hu.symm
      have htk := crcDef_take hkl
      generalize crcDef 0#32 (l.take k) = s at *
      have hm := msb64 s
      generalize l[k] = bk at *
      cases bk
      all_goals go_wp2_with fail
      all_goals
        go_roundg (n - (k + 1))
        case measure => omega
        case rel =>
          rename_i h
          refine ⟨k + 1, by omega, by go_num, ?_, rfl⟩
          rw [htk]
          first | rw [← rx_ff _ h] | rw [← rx_ft _ h] | rw [← rx_tf _ h] | rw [← rx_tt _ h]
    · obtain rfl : k = n := by omega
      go_wp2_with fail
      go_ret
      refine ⟨?_, rfl⟩
      have hnl := Hl.out
      rw [List.take_of_length_le (by omega)]
      rfl
theorem bool_info : (Tryz.prog.info? 4).map (fun i => (i.zero, i.size, i.bytes)) = some (some (.bool false), 1, 1) := by kernel_rfl
theorem bool_one (l : List Bool) : ∀ u ∈ l.map Value.bool, u.oneCell' = true := by
  intro u hu
  obtain ⟨c, _, rfl⟩ := List.mem_map.1 hu
  rfl
theorem byte_bit (c : UInt8) (j : Nat) : (bits .and .u8 ((c.toNat : Int) / 2 ^ (7 - j)) 1 != 0) = c.toBitVec.getLsbD (7 - j) := by
  have e : (c.toNat : Int) / 2 ^ (7 - j) = ((c.toNat / 2 ^ (7 - j) : Nat) : Int) := by simp
  have hle : c.toNat / 2 ^ (7 - j) ≤ c.toNat := Nat.div_le_self _ _
  have hc := c.toNat_lt
  have hb : c.toBitVec.getLsbD (7 - j) = decide (c.toNat / 2 ^ (7 - j) % 2 = 1) := by
    rw [← BitVec.testBit_toNat, Nat.testBit_eq_decide_div_mod_eq]
    rfl
  rw [e, hb]
  generalize c.toNat / 2 ^ (7 - j) = y at *
  rw [and1_8 _ (by omega) (by omega), Bool.eq_iff_iff]
  simp
  omega
theorem flat_take {l : List UInt8} {k : Nat} (h : k < l.length) : (l.take (k + 1)).flatMap bitsOf = (l.take k).flatMap bitsOf ++ bitsOf l[k] := by
  rw [List.take_succ_eq_append_getElem h, List.flatMap_append]
  simp
theorem bits_take (c : UInt8) {j : Nat} (h : j < 8) : (bitsOf c).take (j + 1) = (bitsOf c).take j ++ [c.toBitVec.getLsbD (7 - j)] := by
  have hl : j < (bitsOf c).length := h
  have hg := bitsOf_get c j h
  rw [List.take_succ_eq_append_getElem hl]
  rw [List.getElem?_eq_getElem hl] at hg
  rw [Option.some.inj hg]
/-- make with room. -/
theorem run_room {t e : TypeId} {z : Value} (ht : (Tryz.prog).underlying t = some (.slice e)) (hinfo : ((Tryz.prog).info? e).map (fun i => (i.zero, i.size, i.bytes)) = some (some z, 1, 1)) (hz1 : z.cells = #[z]) (c : Nat) (hc : c ≤ 100000000) (w : World) :
    (Instr.makeSlice t (.int .i64 0) (.int .i64 (c : Int))).run Tryz.prog w = .ok (.slice (some ⟨w.heap.size, 0, none⟩) 0 c) (w.alloc (.cells (madeCells #[z] c) e)) := by
  obtain ⟨i, hi, hzz⟩ := Option.map_eq_some_iff.1 hinfo
  simp only [Prod.mk.injEq] at hzz
  obtain ⟨hz, hs, hb⟩ := hzz
  have hr := run_make (P := Tryz.prog) w t e i z ht hi hz .i64 .i64 0 c (Int.le_refl _) (by omega) (by rw [hb]; omega) (by omega)
  simp only [Int.toNat_natCast, hs, Nat.mul_one, hz1, Int.toNat_zero] at hr
  exact hr
theorem own_room (w : World) (z : Value) (e : TypeId) (c : Nat) (hc : c ≤ 100000000) : (w.alloc (.cells (madeCells #[z] c) e)).ownsRow w.heap.size e 1 (.slice (some ⟨w.heap.size, 0, none⟩) 0 c) 0 [] :=
  World.ownsRow_made w _ c (Nat.le_refl _) (by unfold maxLen; omega) (by simp [size_madeCells])
theorem refOf_any (A : Option Addr) (n c : Nat) (l : List UInt8) (B : Nat) (w : World) (hr : Reads w B 1 A n (u8c l)) (hB : B ≤ w.heap.size) (hn : n < 1000000) :
    Calls Tryz.prog 112 #[.slice A n c, .int .u64 4812730177] w fun e w' => e = .returned (.tuple #[.int .u64 ((crcDef 0#32 (l.flatMap bitsOf)).toNat : Int), .int .i64 0]) ∧ Below w.heap.size w w' := by
  have hl : l.length = n := by have := hr.1; simpa [u8c] using this
  have Hl := Lib.hid hl
  clear hl
  obtain ⟨i0, hi0, hz0, hz1, hz2⟩ := info_parts bool_info
  have hmk := fun w => run_room (t := 232) (z := .bool false) Tryz.underlying232 bool_info rfl (8 * n) (by omega) w
  rw [show ((8 * n : Nat) : Int) = 8 * (n : Int) by simp] at hmk
  have hown0 := own_room w (.bool false) 4 (8 * n) (by omega)
  have hb0 : Below w.heap.size w (w.alloc (.cells (madeCells #[.bool false] (8 * n)) 4)) := (Below.refl _ _).alloc (Nat.le_refl _) _
  go_enter Tryz.func112, Tryz.ntmps112
  go_wp2_with fail
  clear hmk
  go_loopg [6, 7, 8] n (fun q v6 v7 _v8 wr => ∃ (k : Nat) (A' : Option Addr) (c' : Nat), k + q = n ∧ v7 = .int .i64 k ∧ v6 = .slice A' (8 * k) c' ∧ wr.ownsRow w.heap.size 4 1 (.slice A' (8 * k) c') (8 * k) (((l.take k).flatMap bitsOf).map Value.bool) ∧ Below w.heap.size w wr)
  case atStart => exact ⟨0, _, _, by omega, rfl, rfl, hown0, hb0⟩
  case round =>
    obtain ⟨k, A1, c1, hq, rfl, rfl, hown1, hb1⟩ := hrel
    clear hown0 hb0
    by_cases hk : k < n
    · obtain ⟨ad, u, rfl, hbA, hu, hcell⟩ := hr.at_ hk
      have hkl : k < l.length := by rw [Hl.out]; exact hk
      obtain rfl : u = .int .u8 (l[k].toNat : Int) := by
        simp [u8c, hkl] at hu
        exact hu.symm
      have hft := flat_take hkl
      have hlen : ((l.take k).flatMap bitsOf).length = 8 * k := by simpa using hown1.1
      generalize l[k] = ck at *
      generalize (l.take k).flatMap bitsOf = acc at *
      go_wp2_with fail
      go_loopg [6, 8] 8 (fun q v6 v8 wi => ∃ (j : Nat) (A' : Option Addr) (c' : Nat), j + q = 8 ∧ v8 = .int .i64 (7 - (j : Int)) ∧ v6 = .slice A' (8 * k + j) c' ∧ wi.ownsRow w.heap.size 4 1 (.slice A' (8 * k + j) c') (8 * k + j) ((acc ++ (bitsOf ck).take j).map Value.bool) ∧ Below w.heap.size w wi)
      case atStart => exact ⟨0, _, _, rfl, rfl, rfl, by simpa using hown1, hb1⟩
      case round =>
        obtain ⟨j, A2, c2, hqj, rfl, rfl, hown2, hb2⟩ := hrel
        clear hown1 hb1
        by_cases hj : j < 8
        · have hp : ((7 : Int) - (j : Int)) = ((7 - j : Nat) : Int) := by omega
          have hbit := byte_bit ck j
          have htk := bits_take ck hj
          have hlen2 : (acc ++ (bitsOf ck).take j).length = 8 * k + j := by simpa using hown2.1
          have hcw : wr.cell? (ad.add k) = some (.int .u8 (ck.toNat : Int)) := (hb2.cell (p := ad.add k) (by rw [block_of_add]; omega)).trans hcell
          rw [hp]
          obtain ⟨m7, Hm7⟩ : ∃ m7, Hid (m7 = 7 - j) := ⟨_, Lib.hid rfl⟩
          rw [← Hm7.out] at hbit htk ⊢
          have hm8 : m7 < 8 := by have := Hm7.out; omega
          clear hp hcell
          generalize ck.toBitVec.getLsbD m7 = bt at *
          have hlt2 := hown2.lt
          have hs2 := hb2.size
          go_wp2_with (at_builtin; refine wpList_append_any _ rfl (.tmp 25) (.tmp 34) _ rfl w.heap.size 4 i0 _ 1 1 Tryz.underlying232 hi0 hz0 hz1 hz2 rfl (by omega) (.slice A2 (8 * k + j) c2) (8 * k + j) _ rfl (hown2.alloc _) (wr.heap.size + 1) (some ⟨wr.heap.size, 0, none⟩) 1 1 [.bool bt] rfl (by simpa [hbit] using Reads.of_blk (Blk.new wr 4 #[.bool bt]) (B := wr.heap.size + 1) (size := 1) (n := 1) (by omega) rfl) (by simp [Value.oneCell']) (by unfold maxLen; omega) (by omega) (by simp; omega) ?_; intro v3 w3 hown3 hg3 hat3; obtain ⟨A3, c3, rfl⟩ := own_slice hown3)
          go_roundg (8 - (j + 1))
          case measure => omega
          case rel =>
            refine ⟨j + 1, A3, c3, by omega, ?_, ?_, ?_, ?_⟩
            · have := Hm7.out; rw [this]; go_num
            · rw [Nat.add_assoc]
            · rw [htk, ← List.append_assoc, List.map_append]
              exact hown3
            · exact (hb2.alloc hs2 _).grown hg3 (by simp; omega) (fun k hk => (hlt2 k hk).1)
        · obtain rfl : j = 8 := by omega
          go_wp2_with fail
          go_roundg (n - (k + 1))
          case measure => omega
          case rel =>
            refine ⟨k + 1, A2, c2, by omega, by go_num, ?_, ?_, hb2⟩
            · rw [Nat.mul_add]
            · rw [hft]
              have e8 : (bitsOf ck).take 8 = bitsOf ck := rfl
              rw [e8] at hown2
              exact hown2
    · obtain rfl : k = n := by omega
      have hnl := Hl.out
      rw [List.take_of_length_le (by omega)] at hown1
      go_wp2_with fail
      refine (refBits_any A1 (8 * k) c1 _ wr.heap.size wr (Reads.of_own hown1) (by omega)).mono ?_
      rintro e w2 ⟨rfl, rfl⟩
      go_wp2_with fail
      refine bodyPost_ret (v := .tuple #[.int .u64 ((crcDef 0#32 (l.flatMap bitsOf)).toNat : Int), .int .i64 0]) (by simp [results, Tryz.results112, go_sem]) rfl ⟨rfl, hb1⟩
end Go.Proofs.YtbkkfkbgcklkgaaGreat
/- The reference's check (parapetref02): Word, Sum, Seal, Valid. -/
namespace Go.Proofs.YtbkkfkbgcklkgaaGreat
open Go.RowKit
set_option maxHeartbeats 4000000
set_option maxRecDepth 100000

theorem rword_any (s : BitVec 32) (w : World) : Calls Tryz.prog 62 #[u32v s] w fun e w' => ∃ v, e = .returned v ∧ w'.ownsRow w.heap.size 5 1 v 4 (u8c (wordOf s)) ∧ Below w.heap.size w w' := by
  have hown : (w.alloc (.cells #[Value.int .u8 ((s.toNat : Int) / 16777216), .int .u8 ((s.toNat : Int) / 65536 % 256), .int .u8 ((s.toNat : Int) / 256 % 256), .int .u8 ((s.toNat : Int) % 256)] 5)).ownsRow w.heap.size 5 1 (.slice (some ⟨w.heap.size, 0, none⟩) 4 4) 4 (u8c (wordOf s)) := by
    have := own_full w #[Value.int .u8 ((s.toNat : Int) / 16777216), .int .u8 ((s.toNat : Int) / 65536 % 256), .int .u8 ((s.toNat : Int) / 256 % 256), .int .u8 ((s.toNat : Int) % 256)] 5 w.heap.size (Nat.le_refl _) (by simp [maxLen])
    rw [word_cells] at this ⊢
    simpa [u8c, wordOf] using this
  go_enter Tryz.func62, Tryz.ntmps62
  go_wp2_with fail
  go_ret
  exact ⟨_, rfl, by simpa using hown, (Below.refl _ _).alloc (Nat.le_refl _) _⟩
theorem rsum_any (A : Option Addr) (n c : Nat) (l : List UInt8) (B : Nat) (w : World) (hr : Reads w B 1 A n (u8c l)) (hB : B ≤ w.heap.size) (hn : n < 900000) :
    Calls Tryz.prog 63 #[.slice A n c] w fun e w' => e = .returned (u32v (crcOf 0#32 l)) ∧ Below w.heap.size w w' := by
  obtain ⟨i0, hi0, hz0, hz1, hz2⟩ := info_parts byte_info
  have hmk := fun w => run_room (t := 41) (z := .int .u8 0) Tryz.underlying41 byte_info rfl (n + 4) (by omega) w
  rw [show ((n + 4 : Nat) : Int) = (n : Int) + 4 by simp] at hmk
  have hown0 := own_room w (.int .u8 0) 5 (n + 4) (by omega)
  have hb0 : Below w.heap.size w (w.alloc (.cells (madeCells #[.int .u8 0] (n + 4)) 5)) := (Below.refl _ _).alloc (Nat.le_refl _) _
  have hwr := fun (x : BitVec 32) => (show IntKind.u32.wrap (x.toNat : Int) = (x.toNat : Int) from IntWalk.u32_in _ (by have := x.isLt; omega))
  have hzr : ∀ (W : World), Reads (W.alloc (.cells #[Value.int .u8 0, .int .u8 0, .int .u8 0, .int .u8 0] 5)) (W.heap.size + 1) 1 (some ⟨W.heap.size, 0, none⟩) 4 (u8c [0, 0, 0, 0]) := fun W => Reads.of_blk (Blk.new W _ _) (by omega) rfl
  go_enter Tryz.func63, Tryz.ntmps63
  go_wp2_with (first
    | (at_builtin; refine wpList_append_any _ rfl (.tmp 9) (.tmp 10) _ rfl w.heap.size 5 i0 _ 1 1 Tryz.underlying41 hi0 hz0 hz1 hz2 rfl (by omega) (.slice (some ⟨w.heap.size, 0, none⟩) 0 (n + 4)) 0 [] rfl hown0 B A n c (u8c l) rfl (hr.alloc hB _) (u8c_one l) (by unfold maxLen; omega) (by omega) (by simp) ?_; intro v1 w1 hown1 hg1 hat1; rw [Nat.zero_add, List.nil_append] at hown1; obtain ⟨A1, c1, rfl⟩ := own_slice hown1; have hb1 := hb0.grown hg1 (by simp) (fun k hk => by simp [Value.ownBlock] at hk; omega); have hlt1 := hown1.lt)
    | (at_builtin; refine wpList_append_any _ rfl (.tmp 11) (.tmp 12) _ rfl w.heap.size 5 i0 _ 1 1 Tryz.underlying41 hi0 hz0 hz1 hz2 rfl (by omega) (.slice A1 n c1) n (u8c l) rfl (hown1.alloc _) (w1.heap.size + 1) (some ⟨w1.heap.size, 0, none⟩) 4 4 (u8c [0, 0, 0, 0]) rfl (hzr _) (u8c_one _) (by unfold maxLen; omega) (by omega) (by have := hb1.size; simp; omega) ?_; intro v2 w2 hown2 hg2 hat2; obtain ⟨A2, c2, rfl⟩ := own_slice hown2; have hb2 := (hb1.alloc hb1.size _).grown hg2 (by have := hb1.size; simp; omega) (fun k hk => (hlt1 k hk).1)))
  clear hmk hown0 hb0 hg1 hg2 hat1 hat2 hown1 hb1 hlt1 hzr
  refine (refOf_any A2 (n + 4) c2 (l ++ [0, 0, 0, 0]) w2.heap.size w2 (by rw [u8c_append]; exact Reads.of_own hown2) (Nat.le_refl _) (by omega)).mono ?_
  rintro e w3 ⟨rfl, hb3⟩
  rw [crc_same]
  have hb4 := hb2.trans (hb3.mono hb2.size)
  go_wp2_with fail
  go_ret
  exact ⟨rfl, hb4⟩
/-- string(b) of bytes that read as l. -/
theorem conv_reads {w : World} {B n c : Nat} {A : Option Addr} {l : List UInt8} (hr : Reads w B 1 A n (u8c l)) : (convert 41 9 (.slice A n c)).run Tryz.prog w = .ok (.string ⟨l.toArray⟩) w := by
  have hl : l.length = n := by have := hr.1; simpa [u8c] using this
  cases A with
  | none =>
    have h0 : n = 0 := by
      rcases Nat.eq_zero_or_pos n with h | h
      · exact h
      · obtain ⟨ad, h, _⟩ := hr.2 h; cases h
    subst h0
    obtain rfl : l = [] := List.eq_nil_of_length_eq_zero hl
    exact run_convert_bytes_nil w 41 5 Tryz.underlying41 Tryz.underlying5 0 c 9 Tryz.underlying9
  | some ad =>
    have hload : (loadCells ad n).run Tryz.prog w = .ok ((l.map fun c => (c.toNat : Int)).map (Value.int .u8)).toArray w := by
      have := run_loadCells_list (P := Tryz.prog) w ad (u8c l) (fun j v hj => by
        have hjl : j < n := by
          have := (List.getElem?_eq_some_iff.1 hj).1
          rw [u8c_length, hl] at this
          exact this
        obtain ⟨ad', e, _, hc⟩ := hr.2 (by omega)
        injection e with e
        subst e
        exact hc j v hj)
      rw [u8c_length, hl] at this
      rw [this]
      simp [u8c]
    rw [run_convert_bytes_string w _ _ _ _ n c Tryz.underlying41 Tryz.underlying5 Tryz.underlying9, run_bytesToString w ad n c _ hload, foldl_push_bytes]
    have e : ∀ l : List UInt8, List.map ((fun n : Int => UInt8.ofNat n.toNat) ∘ fun c : UInt8 => (c.toNat : Int)) l = l := fun l => by
      induction l with
      | nil => rfl
      | cons x l ih => rw [List.map_cons, ih]; simp
    simp [ByteArray.empty, ByteArray.emptyWithCapacity]
    exact e l
theorem rseal_any (A : Option Addr) (n c : Nat) (l : List UInt8) (B : Nat) (w : World) (hr : Reads w B 1 A n (u8c l)) (hB : B ≤ w.heap.size) (hn : n ≤ 100000) :
    Calls Tryz.prog 111 #[.slice A n c] w fun e w' => ∃ v, e = .returned v ∧ w'.ownsRow w.heap.size 5 1 v (n + 4) (u8c (sealM l)) ∧ Below w.heap.size w w' := by
  obtain ⟨i0, hi0, hz0, hz1, hz2⟩ := info_parts byte_info
  go_enter Tryz.func111, Tryz.ntmps111
  go_wp2_with (at_builtin; refine wpList_append_any _ rfl (.tmp 3) (.tmp 4) _ rfl w.heap.size 5 i0 _ 1 1 Tryz.underlying41 hi0 hz0 hz1 hz2 rfl (by omega) (.slice (some ⟨w.heap.size, 0, none⟩) 0 0) 0 [] rfl (World.ownsRow_made w #[] 0 (Nat.le_refl _) (by unfold maxLen; omega) rfl) B A n c (u8c l) rfl (hr.alloc hB _) (u8c_one l) (by unfold maxLen; omega) (by omega) (by simp) ?_; intro v1 w1 hown1 hg1 hat1; rw [Nat.zero_add, List.nil_append] at hown1; obtain ⟨A1, c1, rfl⟩ := own_slice hown1)
  have hb1 := ((Below.refl w.heap.size w).alloc (Nat.le_refl _) (.cells #[] 5)).grown hg1 (by simp) (fun k hk => by simp [Value.ownBlock] at hk; omega)
  refine (rsum_any A n c l B w1 (hr.below (hb1.mono hB)) (by have := hb1.size; omega) (by omega)).mono ?_
  rintro e w2 ⟨rfl, hb2⟩
  have hb2' := hb1.trans (hb2.mono hb1.size)
  have hown2 := own_below hown1 hb2
  clear hg1 hat1
  go_wp2_with fail
  refine (rword_any _ w2).mono ?_
  rintro e w3 ⟨v3, rfl, hown3, hb3⟩
  obtain ⟨A3, c3, rfl⟩ := own_slice hown3
  have hb3' := hb2'.trans (hb3.mono hb2'.size)
  have hown4 := own_below hown2 hb3
  have hlt4 := hown4.lt
  go_wp2_with (at_builtin; refine wpList_append_any _ rfl (.tmp 5) (.tmp 8) _ rfl w.heap.size 5 i0 _ 1 1 Tryz.underlying41 hi0 hz0 hz1 hz2 rfl (by omega) (.slice A1 n c1) n (u8c l) rfl hown4 w3.heap.size A3 4 c3 (u8c (wordOf (crcOf 0#32 l))) rfl (Reads.of_own hown3) (u8c_one _) (by unfold maxLen; omega) (by omega) hb3'.size ?_; intro v5 w5 hown5 hg5 hat5)
  go_ret
  refine ⟨_, rfl, ?_, hb3'.grown hg5 hb3'.size (fun k hk => (hlt4 k hk).1)⟩
  unfold sealM; rw [u8c_append]; exact hown5
theorem four_of {l : List UInt8} {n : Nat} (h : l.length = n + 4) : ∃ p a b c d, l = p ++ [a, b, c, d] ∧ p.length = n := by
  refine ⟨l.take n, (l.drop n).getD 0 0, (l.drop n).getD 1 0, (l.drop n).getD 2 0, (l.drop n).getD 3 0, ?_, by simp [h]⟩
  have hd : (l.drop n).length = 4 := by simp [h]
  match hq : l.drop n, hd with
  | [a, b, c, d], _ =>
    have := List.take_append_drop n l
    rw [hq] at this
    simpa using this.symm
theorem Reads.tail {w : World} {B : Nat} {ad : Addr} {n : Nat} {p q : List UInt8} (hp : p.length = n) (h : Reads w B 1 (some ad) (n + q.length) (u8c (p ++ q))) : Reads w B 1 (some (ad.add n)) q.length (u8c q) := by
  refine ⟨by simp [u8c], fun hm => ?_⟩
  obtain ⟨ad', e, hb, hc⟩ := h.2 (by omega)
  injection e with e
  subst e
  refine ⟨_, rfl, by rw [block_of_add]; exact hb, fun j u hu => ?_⟩
  rw [add_of_add]
  apply hc
  rw [u8c_append, List.getElem?_append_right (by rw [u8c_length]; omega), u8c_length, hp, Nat.add_sub_cancel_left]
  exact hu
theorem Reads.head {w : World} {B : Nat} {A : Option Addr} {n m : Nat} {p q : List UInt8} (hp : p.length = n) (h : Reads w B 1 A m (u8c (p ++ q))) (hnm : n ≤ m) : Reads w B 1 A n (u8c p) := by
  refine ⟨by simp [u8c, hp], fun hn => ?_⟩
  obtain ⟨ad', e, hb, hc⟩ := h.2 (by omega)
  refine ⟨ad', e, hb, fun j u hu => ?_⟩
  apply hc
  rw [u8c_append, List.getElem?_append_left (List.getElem?_eq_some_iff.1 hu).1]
  exact hu
theorem cut_tail (ad : Addr) (n m c : Nat) (h : n ≤ m) (hc : ¬ c = n) (W : World) : (Instr.slice 41 (.slice (some ad) m c) (some (.int .i64 (n : Int))) none none).run Tryz.prog W = .ok (.slice (some (ad.add n)) (m - n) (c - n)) W := by
  rw [run_slice_l (P := Tryz.prog) (w := W) 41 _ _ _ (by kernel_rfl) .i64 n (by omega) (by omega)]
  have hs : (sizeOf ((Tryz.prog).elem 41)).run Tryz.prog W = .ok 1 W := by kernel_rfl
  rw [hs]
  simp [Result.andThen, sliced, hc]
theorem cut_head (ad : Addr) (n m c : Nat) (h : n ≤ c) (W : World) : (Instr.slice 41 (.slice (some ad) m c) none (some (.int .i64 (n : Int))) none).run Tryz.prog W = .ok (.slice (some ad) n c) W := by
  rw [run_slice_h (P := Tryz.prog) (w := W) 41 _ _ _ (by kernel_rfl) .i64 n (by omega) (by omega)]
  have hs : (sizeOf ((Tryz.prog).elem 41)).run Tryz.prog W = .ok 1 W := by kernel_rfl
  rw [hs]
  simp [Result.andThen, sliced, Addr.add]
theorem rvalid_any (ad : Addr) (N n c : Nat) (p : List UInt8) (a b c' d : UInt8) (B : Nat) (w : World) (hN : N = n + 4) (hp : p.length = n) (hr : Reads w B 1 (some ad) N (u8c (p ++ [a, b, c', d]))) (hB : B ≤ w.heap.size) (hc : N ≤ c) (hn : n ≤ 1000) :
    Calls Tryz.prog 70 #[.slice (some ad) N c] w fun e w' => e = .returned (.bool (crcOf 0#32 (p ++ [a, b, c', d]) == 0#32)) ∧ Below w.heap.size w w' := by
  have hv := crc_valid p a b c' d
  have h4 : (4 : Int) ≤ (N : Int) := by omega
  have hx1 := fun W => cut_tail ad n N c (by omega) (by omega) W
  rw [show N - n = 4 by omega] at hx1
  have hx2 := fun W => cut_head ad n N c (by omega) W
  have hw1 : IntKind.i64.wrap ((N : Int) - 4) = (n : Int) := by rw [IntWalk.i64_in _ (by omega)]; omega
  rw [hN] at hr
  have Hr := Lib.hid hr.drew
  have Hp := Lib.hid hp
  have Hv := Lib.hid hv
  have Hn := Lib.hid hn
  have HB := Lib.hid hB
  have HN := Lib.hid hN
  clear hr hp hv hn hN hB hc
  go_enter Tryz.func70, Tryz.ntmps70
  go_wp2_with fail
  go_region_held (fun w' => (convert 41 9 (.slice (some (ad.add n)) 4 (c - n))).run Tryz.prog w' = .ok (.string ⟨[a, b, c', d].toArray⟩) w') (with_reducible (first | exact conv_reads (Reads.tail Hp.out Hr.out))) (first
    | (go_at_call 63; refine (rsum_any _ n c p B _ (Reads.head Hp.out Hr.out (by omega)) HB.out (by have := Hn.out; omega)).mono ?_; rintro e W1 ⟨rfl, hb1⟩; have Hr1 := Lib.hid (Hr.out.below (hb1.mono HB.out)); clear Hr; have Hr := Hr1; clear Hr1)
    | (go_at_call 62; refine (rword_any _ _).mono ?_; rintro e W2 ⟨v, rfl, hown, hb2⟩; have hs1 := hb1.size; have hs2 : B ≤ W1.heap.size := Nat.le_trans HB.out hs1; have Hr2 := Lib.hid (Hr.out.below (hb2.mono hs2)); clear Hr; have Hr := Hr2; clear Hr2; obtain ⟨A3, c3, hv3⟩ := own_slice hown; subst hv3; have hcv := conv_reads (c := c3) (Reads.of_own hown)))
  all_goals
    go_wp2_with fail
    go_ret
    refine ⟨?_, ((Below.refl w.heap.size w).drew.trans hb1).trans (hb2.mono (show w.heap.size ≤ W1.heap.size from hs1))⟩
    have e : ([a, b, c', d] == wordOf (crcOf 0#32 p)) = (crcOf 0#32 (p ++ [a, b, c', d]) == 0#32) := by
      rw [Bool.eq_iff_iff]
      simp only [beq_iff_eq]
      exact Hv.out.symm
    exact congrArg (fun x => Ending.returned (Value.bool x)) e
end Go.Proofs.YtbkkfkbgcklkgaaGreat
