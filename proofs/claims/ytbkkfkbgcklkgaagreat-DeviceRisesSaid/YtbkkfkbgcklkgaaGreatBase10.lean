/- The base of the laws, part 10: contracts and plain lemmas, no statement. -/
import Derived.Test.YtbkkfkbgcklkgaaGreatBase9
import Derived.Deep.OwnRows
/- The reference's dog and valve (parapetref10, parapetref11): structs inside a block. -/
namespace Go.Proofs.YtbkkfkbgcklkgaaGreat
open Go.RowKit
set_option maxHeartbeats 4000000
set_option maxRecDepth 100000

/-- A stretch of a block's cells. -/
def seg (pre mid post : List Value) : Array Value := (pre ++ mid ++ post).toArray
theorem seg_get (pre mid post : List Value) (i : Nat) (hi : i < mid.length) : (seg pre mid post)[pre.length + i]? = mid[i]? := by
  unfold seg
  simp [List.getElem?_append, hi]
theorem seg_set (pre mid post : List Value) (i : Nat) (x : Value) (hi : i < mid.length) : (seg pre mid post).setIfInBounds (pre.length + i) x = seg pre (mid.set i x) post := by
  unfold seg
  rw [List.setIfInBounds_toArray, List.append_assoc, List.set_append_right _ _ (by omega), Nat.add_sub_cancel_left, List.set_append_left _ _ hi, List.append_assoc]
section
variable {w : World} {b : Nat} {t : TypeId} {pre mid post : List Value}
theorem Blk.seg_cell (h : Blk w b t (seg pre mid post)) {o : Nat} (ho : pre.length = o) (i : Nat) (hi : i < mid.length) : w.cell? ⟨b, o + i, none⟩ = mid[i]? := by
  subst ho
  rw [h.cell, seg_get pre mid post i hi]
theorem Blk.seg_set (h : Blk w b t (seg pre mid post)) {o : Nat} (ho : pre.length = o) (i : Nat) (hi : i < mid.length) (x : Value) : Blk (w.setCell ⟨b, o + i, none⟩ x) b t (seg pre (mid.set i x) post) := by
  subst ho
  have := h.set_ (pre.length + i) x
  rwa [Go.Proofs.YtbkkfkbgcklkgaaGreat.seg_set pre mid post i x hi] at this
end
/-- The dog's cells. -/
def rdogCs (limit since : Int) : List Value := [.int .i64 limit, .int .i64 since]
theorem rdogTicks_any (b o : Nat) (t : TypeId) (pre post : List Value) (limit since n : Int) (w : World) (hb : Blk w b t (seg pre (rdogCs limit since) post)) (ho : pre.length = o) (hs : 0 ≤ since) (hl : since ≤ limit) (hl2 : limit ≤ 1048576) (hn : 0 ≤ n) :
    Calls Tryz.prog 114 #[.pointer (some ⟨b, o, none⟩), .int .i64 n] w fun e w' => e = .returned (.bool (ticksM limit since n).2) ∧ Blk w' b t (seg pre (rdogCs limit (ticksM limit since n).1) post) ∧ Keep (fun x => x = b) w w' ∧ w'.heap.size = w.heap.size := by
  have c0 := hb.seg_cell ho 0 (by simp [rdogCs])
  have c1 := hb.seg_cell ho 1 (by simp [rdogCs])
  have hf := hb.frozen
  have hw1 : IntKind.i64.wrap (limit - since) = limit - since := IntWalk.i64_in _ (by omega)
  simp [rdogCs] at c0 c1
  by_cases h1 : limit ≤ since
  · have e1 : ticksM limit since n = (since, false) := by unfold ticksM; rw [if_pos h1]
    rw [e1]
    clear e1
    go_enter Tryz.func114, Tryz.ntmps114
    go_wp2_with fail
    go_big_quiet (fail)
    go_wp2_with fail
    go_ret
    exact ⟨rfl, hb.drewN _, (Keep.refl _ _).drewN _, rfl⟩
  by_cases h2 : limit - since ≤ n
  · have e1 : ticksM limit since n = (limit, true) := by unfold ticksM; rw [if_neg h1, if_pos h2]
    rw [e1]
    clear e1
    go_enter Tryz.func114, Tryz.ntmps114
    go_wp2_with fail
    go_big_quiet (fail)
    have hb2 := hb.drewN nq
    have hk2 := (Keep.refl (fun x => x = b) w).drewN nq
    have hs2 : Hid ((w.drewN nq).heap.size = w.heap.size) := Lib.hid rfl
    generalize w.drewN nq = W2 at *
    clear c0 c1
    have c0 := hb2.seg_cell ho 0 (by simp [rdogCs])
    have c1 := hb2.seg_cell ho 1 (by simp [rdogCs])
    simp [rdogCs] at c0 c1
    go_wp2_with fail
    go_big_quiet (fail)
    have hb3 := hb2.drewN nq
    have hk3 := hk2.drewN nq
    have hs3 : Hid ((W2.drewN nq).heap.size = w.heap.size) := Lib.hid hs2.out
    generalize W2.drewN nq = W3 at *
    clear c0 c1
    have c0 := hb3.seg_cell ho 0 (by simp [rdogCs])
    have c1 := hb3.seg_cell ho 1 (by simp [rdogCs])
    have hf3 := hb3.frozen
    simp [rdogCs] at c0 c1
    go_wp2_with fail
    go_ret
    exact ⟨rfl, by simpa [rdogCs] using hb3.seg_set ho 1 (by simp [rdogCs]) (.int .i64 limit), hk3.setCell (p := ⟨b, o + 1, none⟩) (fun _ => rfl) _, by simp [World.setCell, hs3.out]⟩
  · have e1 : ticksM limit since n = (since + n, false) := by unfold ticksM; rw [if_neg h1, if_neg h2]
    rw [e1]
    have hw2 : IntKind.i64.wrap (since + n) = since + n := IntWalk.i64_in _ (by omega)
    clear e1
    go_enter Tryz.func114, Tryz.ntmps114
    go_wp2_with fail
    go_big_quiet (fail)
    have hb2 := hb.drewN nq
    have hk2 := (Keep.refl (fun x => x = b) w).drewN nq
    have hs2 : Hid ((w.drewN nq).heap.size = w.heap.size) := Lib.hid rfl
    generalize w.drewN nq = W2 at *
    clear c0 c1
    have c0 := hb2.seg_cell ho 0 (by simp [rdogCs])
    have c1 := hb2.seg_cell ho 1 (by simp [rdogCs])
    simp [rdogCs] at c0 c1
    go_wp2_with fail
    go_big_quiet (fail)
    have hb3 := hb2.drewN nq
    have hk3 := hk2.drewN nq
    have hs3 : Hid ((W2.drewN nq).heap.size = w.heap.size) := Lib.hid hs2.out
    generalize W2.drewN nq = W3 at *
    clear c0 c1
    have c0 := hb3.seg_cell ho 0 (by simp [rdogCs])
    have c1 := hb3.seg_cell ho 1 (by simp [rdogCs])
    have hf3 := hb3.frozen
    simp [rdogCs] at c0 c1
    go_wp2_with fail
    go_ret
    exact ⟨rfl, by simpa [rdogCs] using hb3.seg_set ho 1 (by simp [rdogCs]) (.int .i64 (since + n)), hk3.setCell (p := ⟨b, o + 1, none⟩) (fun _ => rfl) _, by simp [World.setCell, hs3.out]⟩
theorem rv_made_zero (n : Nat) : madeCells #[Value.int .u8 0] n = (u8c (List.replicate n 0)).toArray := by
  apply Array.ext
  · simp [madeCells, u8c]
  · intro i h1 h2
    have hm : i % 1 = 0 := Nat.mod_one i
    simp [madeCells, u8c, hm]
/-- The valve's cells. -/
def rvCs (n : Int) (V : ValveM) (vv : Value) : List Value := [.int .i64 n, .bool V.running, .bool V.held, .bool V.fresh, .int .i64 V.latched, vv, .bool V.value.isSome]
/-- What the value's cell holds. -/
def RVal (w : World) (vv : Value) (x : Option (List UInt8)) : Prop :=
  match x with
  | none => vv = .slice none 0 0
  | some l => w.ownsRow 0 5 1 vv l.length (u8c l)
theorem RVal.keep {w w' : World} {S : Nat → Prop} {vv : Value} {x : Option (List UInt8)} (h : RVal w vv x) (hk : Keep S w w') (hx : ∀ g, vv.ownBlock = some g → ¬ S g) : RVal w' vv x := by
  cases x with
  | none => exact h
  | some b => exact ownsRow_keep h hk hx
theorem rv_cells {b o : Nat} {t : TypeId} {pre post : List Value} {n : Int} {V : ValveM} {vv : Value} {w : World} (hb : Blk w b t (seg pre (rvCs n V vv) post)) (ho : pre.length = o) :
    w.cell? ⟨b, o, none⟩ = some (.int .i64 n) ∧ w.cell? ⟨b, o + 1, none⟩ = some (.bool V.running) ∧ w.cell? ⟨b, o + 2, none⟩ = some (.bool V.held) ∧ w.cell? ⟨b, o + 3, none⟩ = some (.bool V.fresh) ∧ w.cell? ⟨b, o + 4, none⟩ = some (.int .i64 V.latched) ∧ w.cell? ⟨b, o + 5, none⟩ = some vv ∧ w.cell? ⟨b, o + 6, none⟩ = some (.bool V.value.isSome) :=
  ⟨hb.seg_cell ho 0 (by simp [rvCs]), hb.seg_cell ho 1 (by simp [rvCs]), hb.seg_cell ho 2 (by simp [rvCs]), hb.seg_cell ho 3 (by simp [rvCs]), hb.seg_cell ho 4 (by simp [rvCs]), hb.seg_cell ho 5 (by simp [rvCs]), hb.seg_cell ho 6 (by simp [rvCs])⟩
section
variable (b o : Nat) (t : TypeId) (pre post : List Value) (n : Int) (V : ValveM) (vv : Value) (w : World)
/-- Behind a call that writes the valve's cells alone. -/
def RvTo (V' : ValveM) (vv' : Value) (w' : World) : Prop := Blk w' b t (seg pre (rvCs n V' vv') post) ∧ Keep (fun x => x = b) w w' ∧ w'.heap.size = w.heap.size
theorem rvTrip_any (code : Int) (hb : Blk w b t (seg pre (rvCs n V vv) post)) (ho : pre.length = o) (hc : code ≠ 0) :
    Calls Tryz.prog 148 #[.pointer (some ⟨b, o, none⟩), .int .i64 code] w fun e w' => e = .returned (.bool (V.trip code).2) ∧ RvTo b t pre post n w (V.trip code).1 (.slice none 0 0) w' := by
  obtain ⟨c0, c1, c2, c3, c4, c5, c6⟩ := rv_cells hb ho
  have hf := hb.frozen
  obtain ⟨running, held, fresh, latched, value⟩ := V
  simp only at c0 c1 c2 c3 c4 c5 c6
  have hk : ∀ x y z u, Keep (fun x => x = b) w ((((w.setCell ⟨b, o + 6, none⟩ x).setCell ⟨b, o + 5, none⟩ y).setCell ⟨b, o + 3, none⟩ z).setCell ⟨b, o + 4, none⟩ u) := fun x y z u => ((((Keep.refl (fun x => x = b) w).setCell (p := ⟨b, o + 6, none⟩) (fun _ => rfl) _).setCell (p := ⟨b, o + 5, none⟩) (fun _ => rfl) _).setCell (p := ⟨b, o + 3, none⟩) (fun _ => rfl) _).setCell (p := ⟨b, o + 4, none⟩) (fun _ => rfl) _
  have hk3 : ∀ x y z, Keep (fun x => x = b) w (((w.setCell ⟨b, o + 6, none⟩ x).setCell ⟨b, o + 5, none⟩ y).setCell ⟨b, o + 3, none⟩ z) := fun x y z => (((Keep.refl (fun x => x = b) w).setCell (p := ⟨b, o + 6, none⟩) (fun _ => rfl) _).setCell (p := ⟨b, o + 5, none⟩) (fun _ => rfl) _).setCell (p := ⟨b, o + 3, none⟩) (fun _ => rfl) _
  by_cases hl : latched = 0
  · subst hl
    have e1 : (ValveM.mk running held fresh 0 value).trip code = (⟨running, held, false, code, none⟩, true) := by unfold ValveM.trip; rw [if_neg hc]; rfl
    rw [e1]
    clear e1
    go_enter Tryz.func148, Tryz.ntmps148
    go_wp2_with fail
    go_ret
    refine ⟨rfl, ?_, hk _ _ _ _, by simp [World.setCell]⟩
    simpa [rvCs] using (((hb.seg_set ho 6 (by simp [rvCs]) (.bool false)).seg_set ho 5 (by simp [rvCs]) (.slice none 0 0)).seg_set ho 3 (by simp [rvCs]) (.bool false)).seg_set ho 4 (by simp [rvCs]) (.int .i64 code)
  · have e1 : (ValveM.mk running held fresh latched value).trip code = (⟨running, held, false, latched, none⟩, false) := by unfold ValveM.trip; rw [if_neg hc]; simp [hl]
    rw [e1]
    have g1 : (latched != 0) = true := by simpa using hl
    clear e1
    go_enter Tryz.func148, Tryz.ntmps148
    go_wp2_with fail
    go_ret
    refine ⟨rfl, ?_, hk3 _ _ _, by simp [World.setCell]⟩
    simpa [rvCs] using ((hb.seg_set ho 6 (by simp [rvCs]) (.bool false)).seg_set ho 5 (by simp [rvCs]) (.slice none 0 0)).seg_set ho 3 (by simp [rvCs]) (.bool false)
theorem rvRun_any (on : Bool) (hb : Blk w b t (seg pre (rvCs n V vv) post)) (ho : pre.length = o) :
    Calls Tryz.prog 104 #[.pointer (some ⟨b, o, none⟩), .bool on] w fun e w' => e = .returned (.tuple #[]) ∧ RvTo b t pre post n w (V.run on) (if V.running = on then vv else .slice none 0 0) w' := by
  obtain ⟨c0, c1, c2, c3, c4, c5, c6⟩ := rv_cells hb ho
  have hf := hb.frozen
  by_cases he : V.running = on
  · have e1 : V.run on = V := by unfold ValveM.run; rw [if_pos he]
    rw [e1, if_pos he]
    have hq : ∀ W, (binOp .eql 4 (.bool V.running) (.bool on)).run Tryz.prog W = .ok (.bool true) W := by
      rw [he]
      cases on <;> exact fun _ => by kernel_rfl
    go_enter Tryz.func104, Tryz.ntmps104
    go_wp2_with fail
    first | go_end0 | refine bodyPost_ret (results_none rfl _ _ _) rfl ?_
    exact ⟨rfl, hb, Keep.refl _ _, rfl⟩
  · have e1 : V.run on = { V with running := on, held := false, value := none } := by unfold ValveM.run; rw [if_neg he]
    rw [e1, if_neg he]
    have hq : ∀ W, (binOp .eql 4 (.bool V.running) (.bool on)).run Tryz.prog W = .ok (.bool false) W := by
      cases hr : V.running <;> cases on <;> first | exact absurd hr he | exact fun _ => by kernel_rfl
    obtain ⟨running, held, fresh, latched, value⟩ := V
    simp only at *
    clear he e1
    go_enter Tryz.func104, Tryz.ntmps104
    go_wp2_with fail
    go_end0
    refine ⟨rfl, ?_, ((((Keep.refl (fun x => x = b) w).setCell (p := ⟨b, o + 1, none⟩) (fun _ => rfl) _).setCell (p := ⟨b, o + 2, none⟩) (fun _ => rfl) _).setCell (p := ⟨b, o + 6, none⟩) (fun _ => rfl) _).setCell (p := ⟨b, o + 5, none⟩) (fun _ => rfl) _, by simp [World.setCell]⟩
    simpa [rvCs] using (((hb.seg_set ho 1 (by simp [rvCs]) (.bool on)).seg_set ho 2 (by simp [rvCs]) (.bool false)).seg_set ho 6 (by simp [rvCs]) (.bool false)).seg_set ho 5 (by simp [rvCs]) (.slice none 0 0)
theorem rvHold_any (on : Bool) (hb : Blk w b t (seg pre (rvCs n V vv) post)) (ho : pre.length = o) :
    Calls Tryz.prog 105 #[.pointer (some ⟨b, o, none⟩), .bool on] w fun e w' => e = .returned (.tuple #[]) ∧ RvTo b t pre post n w (V.hold on) vv w' := by
  obtain ⟨c0, c1, c2, c3, c4, c5, c6⟩ := rv_cells hb ho
  have hf := hb.frozen
  obtain ⟨running, held, fresh, latched, value⟩ := V
  unfold ValveM.hold
  simp only at *
  cases on <;> cases running <;>
  · go_enter Tryz.func105, Tryz.ntmps105
    go_wp2_with fail
    go_end0
    refine ⟨rfl, ?_, (Keep.refl (fun x => x = b) w).setCell (p := ⟨b, o + 2, none⟩) (fun _ => rfl) _, by simp [World.setCell]⟩
    first | simpa [rvCs] using hb.seg_set ho 2 (by simp [rvCs]) (.bool false) | simpa [rvCs] using hb.seg_set ho 2 (by simp [rvCs]) (.bool true)
theorem rvCome_any (hb : Blk w b t (seg pre (rvCs n V vv) post)) (ho : pre.length = o) (hfr : V.fresh = true → V.latched ≠ 0) :
    Calls Tryz.prog 147 #[.pointer (some ⟨b, o, none⟩)] w fun e w' => e = .returned (.tuple #[]) ∧ RvTo b t pre post n w V.come vv w' := by
  obtain ⟨c0, c1, c2, c3, c4, c5, c6⟩ := rv_cells hb ho
  have hf := hb.frozen
  obtain ⟨running, held, fresh, latched, value⟩ := V
  unfold ValveM.come
  simp only at *
  by_cases hl : latched = 0
  · subst hl
    have hfr2 : fresh = false := by cases fresh <;> simp_all
    subst hfr2
    go_enter Tryz.func147, Tryz.ntmps147
    go_wp2_with fail
    first | go_end0 | refine bodyPost_ret (results_none rfl _ _ _) rfl ?_
    exact ⟨rfl, hb, Keep.refl _ _, rfl⟩
  · have g1 : (latched != 0) = true := by simpa using hl
    rw [g1]
    go_enter Tryz.func147, Tryz.ntmps147
    go_wp2_with fail
    go_end0
    refine ⟨rfl, ?_, (Keep.refl (fun x => x = b) w).setCell (p := ⟨b, o + 3, none⟩) (fun _ => rfl) _, by simp [World.setCell]⟩
    simpa [rvCs] using hb.seg_set ho 3 (by simp [rvCs]) (.bool true)
theorem rvRequest_any (hb : Blk w b t (seg pre (rvCs n V vv) post)) (ho : pre.length = o) :
    Calls Tryz.prog 125 #[.pointer (some ⟨b, o, none⟩)] w fun e w' => e = .returned (.bool V.request) ∧ w' = w := by
  obtain ⟨c0, c1, c2, c3, c4, c5, c6⟩ := rv_cells hb ho
  obtain ⟨running, held, fresh, latched, value⟩ := V
  unfold ValveM.request
  simp only at *
  by_cases hl : latched = 0
  · subst hl
    cases running <;> cases fresh <;>
    · go_enter Tryz.func125, Tryz.ntmps125
      go_wp2_with fail
      go_ret
      exact ⟨rfl, rfl⟩
  · have g1 : (latched != 0) = true := by simpa using hl
    rw [g1]
    cases running <;> cases fresh <;>
    · go_enter Tryz.func125, Tryz.ntmps125
      go_wp2_with fail
      go_ret
      exact ⟨rfl, rfl⟩
theorem rvAck_any (hb : Blk w b t (seg pre (rvCs n V vv) post)) (ho : pre.length = o) :
    Calls Tryz.prog 115 #[.pointer (some ⟨b, o, none⟩)] w fun e w' => e = .returned (.bool V.request) ∧ RvTo b t pre post n w V.ack vv w' := by
  have hf := hb.frozen
  obtain ⟨c0, c1, c2, c3, c4, c5, c6⟩ := rv_cells hb ho
  have hreq := rvRequest_any b o t pre post n V vv w hb ho
  cases hr : V.request with
  | false =>
    have e1 : V.ack = V := by unfold ValveM.ack; rw [hr]; rfl
    rw [e1]
    rw [hr] at hreq
    go_enter Tryz.func115, Tryz.ntmps115
    go_wp2_with fail
    refine hreq.mono ?_
    rintro e w1 ⟨rfl, rfl⟩
    go_wp2_with fail
    go_ret
    exact ⟨rfl, hb, Keep.refl _ _, rfl⟩
  | true =>
    have e1 : V.ack = { V with latched := 0, fresh := false } := by unfold ValveM.ack; rw [hr]; rfl
    rw [e1]
    rw [hr] at hreq
    obtain ⟨running, held, fresh, latched, value⟩ := V
    simp only at *
    clear e1 hr
    go_enter Tryz.func115, Tryz.ntmps115
    go_wp2_with fail
    refine hreq.mono ?_
    rintro e w1 ⟨rfl, rfl⟩
    go_wp2_with fail
    go_ret
    refine ⟨rfl, ?_, ((Keep.refl (fun x => x = b) w1).setCell (p := ⟨b, o + 4, none⟩) (fun _ => rfl) _).setCell (p := ⟨b, o + 3, none⟩) (fun _ => rfl) _, by simp [World.setCell]⟩
    simpa [rvCs] using (hb.seg_set ho 4 (by simp [rvCs]) (.int .i64 0)).seg_set ho 3 (by simp [rvCs]) (.bool false)
theorem rvTake_any (A : Option Addr) (m c Br : Nat) (l : List UInt8) (hb : Blk w b t (seg pre (rvCs n V vv) post)) (ho : pre.length = o) (hv : RVal w vv V.value) (hr : Reads w Br 1 A m (u8c l)) (hB : Br ≤ w.heap.size) (hm : m ≤ 1000000) (hA : ∀ ad, A = some ad → ad.block ≠ b) :
    Calls Tryz.prog 106 #[.pointer (some ⟨b, o, none⟩), .slice A m c] w fun e w' => e = .returned (.tuple #[]) ∧ ∃ vv', Blk w' b t (seg pre (rvCs n (V.take l) vv') post) ∧ RVal w' vv' (V.take l).value ∧ Keep (fun x => x = b) w w' ∧ (vv' = vv ∨ ∀ x, vv'.ownBlock = some x → w.heap.size ≤ x ∧ x < w'.heap.size) := by
  obtain ⟨i0, hi0, hz0, hz1, hz2⟩ := info_parts byte_info
  have hl : l.length = m := by have := hr.1; simpa [u8c] using this
  have Hl := Lib.hid hl
  obtain ⟨c0, c1, c2, c3, c4, c5, c6⟩ := rv_cells hb ho
  have hf := hb.frozen
  have hblt := hb.lt
  clear hl
  cases hq : (V.running && V.latched == 0) with
  | false =>
    have e1 : V.take l = V := by unfold ValveM.take; rw [hq]; rfl
    rw [e1]
    obtain ⟨running, held, fresh, latched, value⟩ := V
    simp only at *
    cases running with
    | false =>
      go_enter Tryz.func106, Tryz.ntmps106
      go_wp2_with fail
      first | go_end0 | refine bodyPost_ret (results_none rfl _ _ _) rfl ?_
      exact ⟨rfl, vv, hb, hv, Keep.refl _ _, .inl rfl⟩
    | true =>
      have g1 : (latched == 0) = false := by simpa using hq
      go_enter Tryz.func106, Tryz.ntmps106
      go_wp2_with fail
      first | go_end0 | refine bodyPost_ret (results_none rfl _ _ _) rfl ?_
      exact ⟨rfl, vv, hb, hv, Keep.refl _ _, .inl rfl⟩
  | true =>
    have e1 : V.take l = { V with value := some l } := by unfold ValveM.take; rw [hq]; rfl
    rw [e1]
    obtain ⟨running, held, fresh, latched, value⟩ := V
    simp only at *
    obtain ⟨hq1, hq2⟩ : running = true ∧ latched = 0 := by simpa using hq
    subst hq1 hq2
    clear e1 hq
    have hb1 : Blk (w.setCell ⟨b, o + 6, none⟩ (.bool true)) b t (seg pre [.int .i64 n, .bool true, .bool held, .bool fresh, .int .i64 0, vv, .bool true] post) := by simpa [rvCs] using hb.seg_set ho 6 (by simp [rvCs]) (.bool true)
    have hk1 : Keep (fun x => x = b) w (w.setCell ⟨b, o + 6, none⟩ (.bool true)) := (Keep.refl (fun x => x = b) w).setCell (p := ⟨b, o + 6, none⟩) (fun _ => rfl) _
    have hz1' : (w.setCell ⟨b, o + 6, none⟩ (.bool true)).heap.size = w.heap.size := by simp [World.setCell]
    have hmade : ((w.setCell ⟨b, o + 6, none⟩ (.bool true)).alloc (.cells #[] 5)).ownsRow w.heap.size 5 1 (.slice (some ⟨w.heap.size, 0, none⟩) 0 0) 0 [] := by
      have := World.ownsRow_made (base := w.heap.size) (e := 5) (size := 1) (w.setCell ⟨b, o + 6, none⟩ (.bool true)) #[] 0 (by rw [hz1']; exact Nat.le_refl _) (by unfold maxLen; omega) rfl
      rwa [hz1'] at this
    have hr1 : Reads ((w.setCell ⟨b, o + 6, none⟩ (.bool true)).alloc (.cells #[] 5)) Br 1 A m (u8c l) := by
      refine Reads.alloc ⟨hr.1, fun hn => ?_⟩ (by rw [hz1']; exact hB) _
      obtain ⟨ad, e, hlt, hcl⟩ := hr.2 hn
      refine ⟨ad, e, hlt, fun j y hy => ?_⟩
      rw [World.cell?_setCell_other _ _ _ _ (fun e2 => hA ad e (by rw [← block_of_add ad j, ← e2]))]
      exact hcl j y hy
    go_enter Tryz.func106, Tryz.ntmps106
    go_wp2_with (at_builtin; refine wpList_append_any _ rfl (.tmp 19) (.tmp 20) _ rfl w.heap.size 5 i0 _ 1 1 Tryz.underlying41 hi0 hz0 hz1 hz2 rfl (by omega) (.slice (some ⟨w.heap.size, 0, none⟩) 0 0) 0 [] rfl hmade Br A m c (u8c l) rfl hr1 (u8c_one l) (by unfold maxLen; omega) (by omega) (by simp [World.setCell]) ?_; intro v2 w2 hown2 hg2 hat2; obtain ⟨A2, c2', rfl⟩ := own_slice hown2; have hb2 := (hb1.alloc (.cells #[] 5)).grown hg2 (fun h => by simp [Value.ownBlock] at h; omega); obtain ⟨d0, d1, d2, d3, d4, d5, d6⟩ := rv_cells (V := ⟨true, held, fresh, 0, some l⟩) hb2 ho; have hf2 := hb2.frozen)
    all_goals
      first | go_end0 | refine bodyPost_ret (results_none rfl _ _ _) rfl ?_
      have hs2 := hg2.size
      simp [World.setCell] at hs2
      have hne3 : (Value.slice A2 (0 + m) c2').ownBlock ≠ some b := fun h => by have := (hown2.lt b h).1; omega
      refine ⟨rfl, .slice A2 (0 + m) c2', ?_, ?_, ?_, .inr fun x hx => ?_⟩
      · simpa [rvCs] using hb2.seg_set ho 5 (by simp) (.slice A2 (0 + m) c2')
      · have h1 := ownsRow_keep (S := fun x => x = b) hown2 ((Keep.refl (fun x => x = b) w2).setCell (p := ⟨b, o + 5, none⟩) (fun _ => rfl) (.slice A2 (0 + m) c2')) (fun x hx e => hne3 (e ▸ hx))
        show World.ownsRow _ 0 _ _ _ l.length _
        rw [Hl.out]
        have h2 : ∀ {v : Value} {N : Nat} {xs : List Value} {W : World}, W.ownsRow w.heap.size 5 1 v N xs → W.ownsRow 0 5 1 v N xs := fun h => ⟨h.1, h.2.imp id (fun ⟨g, cap, cur, e, _, r⟩ => ⟨g, cap, cur, e, Nat.zero_le _, r⟩)⟩
        simpa using h2 h1
      · exact (((hk1.alloc _).grown hg2 (fun k h hk => by simp [Value.ownBlock] at h; omega)).setCell (p := ⟨b, o + 5, none⟩) (fun _ => rfl) _)
      · have h1 := hown2.lt x hx
        have h2 : (w2.setCell ⟨b, o + 5, none⟩ (.slice A2 m c2')).heap.size = w2.heap.size := by simp [World.setCell]
        rw [h2]; exact h1
theorem rvOutput_any (N : Nat) (hb : Blk w b t (seg pre (rvCs N V vv) post)) (ho : pre.length = o) (hv : RVal w vv V.value) (hN : N ≤ 8) (hval : ∀ l, V.value = some l → l.length = N) :
    Calls Tryz.prog 124 #[.pointer (some ⟨b, o, none⟩)] w fun e w' => ∃ x, e = .returned (.tuple #[x, .bool V.on]) ∧ w'.ownsRow w.heap.size 5 1 x N (u8c (V.output N)) ∧ Below w.heap.size w w' := by
  obtain ⟨i0, hi0, hz0, hz1, hz2⟩ := info_parts byte_info
  obtain ⟨c0, c1, c2, c3, c4, c5, c6⟩ := rv_cells hb ho
  cases hon : V.on with
  | true =>
    obtain ⟨running, held, fresh, latched, value⟩ := V
    obtain ⟨l, rfl⟩ : ∃ l, value = some l := by
      cases value with
      | none => simp [ValveM.on] at hon
      | some l => exact ⟨l, rfl⟩
    obtain ⟨h1, h2⟩ : running = true ∧ held = false := by simpa [ValveM.on] using hon
    subst h1 h2
    simp only at *
    have hll := hval l rfl
    subst hll
    have hown : w.ownsRow 0 5 1 vv l.length (u8c l) := hv
    obtain ⟨A, c, rfl⟩ := own_slice hown
    have hr := Reads.of_own hown
    have hout : (ValveM.mk true false fresh latched (some l)).output (l.length : Nat) = l := by simp [ValveM.output, ValveM.on]
    rw [hout]
    replace c6 : w.cell? ⟨b, o + 6, none⟩ = some (.bool true) := c6
    have hblt := hb.lt
    have hA1 : ∀ (W : World) (ob : Obj) (i : Nat), b < W.heap.size → (W.alloc ob).cell? ⟨b, i, none⟩ = W.cell? ⟨b, i, none⟩ := fun W ob i hlt => cellA hlt ob i
    clear hon hout hval
    go_enter Tryz.func124, Tryz.ntmps124
    go_wp2_with (at_builtin; refine wpList_append_any _ rfl (.tmp 21) (.tmp 25) _ rfl w.heap.size 5 i0 _ 1 1 Tryz.underlying41 hi0 hz0 hz1 hz2 rfl (by omega) (.slice (some ⟨w.heap.size, 0, none⟩) 0 0) 0 [] rfl (World.ownsRow_made w #[] 0 (Nat.le_refl _) (by unfold maxLen; omega) rfl) w.heap.size A l.length c (u8c l) rfl (hr.alloc (Nat.le_refl _) _) (u8c_one l) (by unfold maxLen; omega) (by omega) (by simp) ?_; intro v1 w1 hown1 hg1 hat1; obtain ⟨A1, c1', rfl⟩ := own_slice hown1)
    all_goals
      refine bodyPost_ret (v := .tuple #[.slice A1 (0 + l.length) c1', .bool true]) (by simp [results, Tryz.results124, go_sem]) rfl ⟨_, rfl, by simpa using hown1, ((Below.refl _ _).alloc (Nat.le_refl _) _).grown hg1 (by simp) (fun k hk => by simp [Value.ownBlock] at hk; omega)⟩
  | false =>
    have hout : V.output N = List.replicate N 0 := by simp [ValveM.output, hon]
    rw [hout]
    have hmk := run_make_row' (P := Tryz.prog) 41 5 (.int .u8 0) 1 Tryz.underlying41 byte_info rfl .i64 .i64 N (by omega) (by omega)
    have hmade : (w.alloc (.cells (madeCells #[.int .u8 0] N) 5)).ownsRow w.heap.size 5 1 (.slice (some ⟨w.heap.size, 0, none⟩) N N) N (u8c (List.replicate N 0)) := by
      rw [rv_made_zero]
      have := own_full w (u8c (List.replicate N 0)).toArray 5 w.heap.size (Nat.le_refl _) (by simp [u8c, maxLen]; omega)
      simpa [u8c] using this
    have hbl : Below w.heap.size w (w.alloc (.cells (madeCells #[.int .u8 0] N) 5)) := (Below.refl _ _).alloc (Nat.le_refl _) _
    obtain ⟨running, held, fresh, latched, value⟩ := V
    simp only at *
    have hon' : (running && !held && value.isSome) = false := hon
    generalize value.isSome = so at *
    clear hout hv hval hon
    cases running <;> cases held <;> cases so <;> first
      | (simp at hon'; done)
      | (go_enter Tryz.func124, Tryz.ntmps124
         go_wp2_with fail
         refine bodyPost_ret (v := .tuple #[.slice (some ⟨w.heap.size, 0, none⟩) N N, .bool false]) (by simp [results, Tryz.results124, go_sem]) rfl ⟨_, rfl, hmade, hbl⟩)
end
end Go.Proofs.YtbkkfkbgcklkgaaGreat
/- The reference's log (parapetref12): a slice of all records in a cell of a struct. -/
namespace Go.Proofs.YtbkkfkbgcklkgaaGreat
open Go.RowKit
set_option maxHeartbeats 600000
set_option maxRecDepth 100000

/-- The log in cell off of block b (whose cells are cs, of type t): all records L; F: its row's block. -/
structure LogAt (w : World) (b : Nat) (t : TypeId) (cs : Array Value) (off : Nat) (L : List Rec) (F : Nat → Prop) (A : Option Addr) (c : Nat) : Prop where
  blk : Blk w b t cs
  at_ : cs[off]? = some (.slice A L.length c)
  row : w.ownsRow 0 175 4 (.slice A L.length c) L.length (recsCells L)
  own : ∀ g, (Value.slice A L.length c).ownBlock = some g → F g
  ne : 175 ≠ t
def LogIs (w : World) (b : Nat) (t : TypeId) (cs : Array Value) (off : Nat) (L : List Rec) (F : Nat → Prop) : Prop := ∃ A c, LogAt w b t cs off L F A c

theorem LogIs.keep {w w' : World} {b : Nat} {t : TypeId} {cs cs' : Array Value} {off : Nat} {L : List Rec} {F F' S : Nat → Prop} (h : LogIs w b t cs off L F) (hk : Keep S w w') (hS : ∀ x, F x → ¬ S x) (hF : ∀ x, F x → F' x)
    (hb : Blk w' b t cs') (he : cs'[off]? = cs[off]?) : LogIs w' b t cs' off L F' := by
  obtain ⟨A, c, D⟩ := h
  exact ⟨A, c, hb, he.trans D.at_, ownsRow_keep D.row hk (fun g h => hS g (D.own g h)), fun g h => hF g (D.own g h), D.ne⟩

theorem LogAt.appended {w : World} {b : Nat} {t : TypeId} {cs : Array Value} {off : Nat} {L : List Rec} {F : Nat → Prop} {A : Option Addr} {c : Nat} (D : LogAt w b t cs off L F A c) (r : Rec) {n : Nat} (hn : L.length = n) {o : Obj} {w4 : World} {A' : Option Addr} {c' : Nat}
    (hg : (w.alloc o).drew.grownBy w4 (Value.slice A n c).ownBlock) (hown : w4.ownsRow 0 175 4 (.slice A' (n + 1) c') (n + 1) (recsCells L ++ r.cells.toList))
    (hat : (Value.slice A' (n + 1) c').ownBlock = (Value.slice A n c).ownBlock ∨ (Value.slice A' (n + 1) c').ownBlock = some (w.alloc o).drew.heap.size) :
    LogIs (w4.setCell ⟨b, off, none⟩ (.slice A' (n + 1) c')) b t (cs.setIfInBounds off (.slice A' (n + 1) c')) off (L ++ [r]) (fun x => F x ∨ (w.heap.size ≤ x ∧ x < (w4.setCell ⟨b, off, none⟩ (.slice A' (n + 1) c')).heap.size)) ∧
      Keep (fun x => F x ∨ x = b) w (w4.setCell ⟨b, off, none⟩ (.slice A' (n + 1) c')) := by
  subst hn
  have hlen : off < cs.size := by
    rcases Nat.lt_or_ge off cs.size with h | h
    · exact h
    · have := D.at_; rw [Array.getElem?_eq_none h] at this; cases this
  have hk1 : Keep F w w4 := ((Keep.refl F w).alloc o).drew.grown hg (fun k h _ => D.own k h)
  have hself : Blk w4 b t cs := (D.blk.alloc o).drew.grown hg (own_ne D.row D.blk D.ne)
  have hsz : (w4.setCell ⟨b, off, none⟩ (.slice A' (L.length + 1) c')).heap.size = w4.heap.size := by simp [World.setCell]
  have hk2 : Keep (fun k => k = b) w4 (w4.setCell ⟨b, off, none⟩ (.slice A' (L.length + 1) c')) := (Keep.refl (fun k => k = b) _).setCell (p := ⟨b, off, none⟩) (fun _ => rfl) _
  refine ⟨⟨A', c', hself.set_ off _, by simp [hlen], ?_, ?_, D.ne⟩, (hk1.mono (fun _ _ h => .inl h)).trans (hk2.mono (fun _ _ h => .inr h))⟩
  · rw [List.length_append, recsCells_append]
    refine ownsRow_keep (n := L.length + 1) (xs := recsCells L ++ recsCells [r]) ?_ hk2 ?_
    · simpa [recsCells] using hown
    · rintro g hg' rfl
      exact own_ne hown hself D.ne hg'
  · rintro g hg'
    have hg'' : (Value.slice A' (L.length + 1) c').ownBlock = some g := by
      rw [List.length_append] at hg'; exact hg'
    rw [hsz]
    rcases hat with e | e
    · rw [hg''] at e
      exact .inl (D.own g e.symm)
    · have := (hown.lt g hg'').2
      rw [hg''] at e
      obtain rfl := Option.some.inj e
      exact .inr ⟨by show w.heap.size ≤ (w.alloc o).heap.size; simp, this⟩

theorem refNote_any (b off : Nat) (t : TypeId) (cs : Array Value) (L : List Rec) (F : Nat → Prop) (code s k : Int) (w : World) (h : LogIs w b t cs off L F) (hs : L.length < 1073741823) :
    Calls Tryz.prog 53 #[.pointer (some ⟨b, off, none⟩), .int .i64 code, .int .u32 s, .int .u32 k] w fun e w' =>
      e = .returned (.int .i64 (L.length + 1)) ∧ (∃ v, LogIs w' b t (cs.setIfInBounds off v) off (L ++ [⟨L.length + 1, code, s, k⟩]) (fun x => F x ∨ (w.heap.size ≤ x ∧ x < w'.heap.size))) ∧ Keep (fun x => F x ∨ x = b) w w' := by
  obtain ⟨A, c, D⟩ := h
  have hlen : off < cs.size := by
    rcases Nat.lt_or_ge off cs.size with h | h
    · exact h
    · have := D.at_; rw [Array.getElem?_eq_none h] at this; cases this
  have hC : w.cell? ⟨b, off, none⟩ = some (.slice A L.length c) := (D.blk.cell off).trans D.at_
  have hZ := D.blk.frozen off
  have hA1 : ∀ (W : World) (o : Obj), b < W.heap.size → (W.alloc o).cell? ⟨b, off, none⟩ = W.cell? ⟨b, off, none⟩ := fun W o hlt => cellA hlt o off
  have hblt := D.blk.lt
  obtain ⟨i0, hi0, hz0, hz1, hz2⟩ := info_parts rec_info
  obtain ⟨m, hm⟩ : ∃ m, m = L.length := ⟨_, rfl⟩
  rw [← hm] at hC hs ⊢
  have hat : cs[off]? = some (.slice A m c) := by rw [hm]; exact D.at_
  have Hat := Lib.hid hat
  have Hm := Lib.hid hm
  have hrow := D.row
  rw [← hm] at hrow
  clear hm hat
  have hwr : IntKind.i64.wrap ((m : Int) + 1) = m + 1 := IntWalk.i64_in _ (by omega)
  go_enter Tryz.func53, Tryz.ntmps53
  go_wp2_with fail
  go_region_law (refine step_append_any _ rfl (.tmp 13) (.tmp 24) _ rfl 0 175 i0 _ 4 24 Tryz.underlying78 hi0 hz0 hz1 hz2 rfl (by omega) (.slice A m c) m (recsCells L) rfl (hrow.alloc _) (w.heap.size + 1) (some ⟨w.heap.size, 0, none⟩) 1 1 _ rfl (Reads.of_blk (Blk.new w _ _) (by omega) rfl) (by simp [Value.oneCell']) (by unfold maxLen; omega) (by omega) (Nat.zero_le _) ?_; intro v4 W4 hown4 hg4 hat4; obtain ⟨A4, c4, rfl⟩ := own_slice hown4; have hB4 := (D.blk.alloc (.cells #[.int .i64 (m + 1), .int .i64 code, .int .u32 s, .int .u32 k] 175)).drew.grown hg4 (own_ne hrow D.blk D.ne); have hA4 : W4.cell? ⟨b, off, none⟩ = some (.slice A m c) := (hB4.cell off).trans Hat.out; have hZ4 := hB4.frozen off)
  all_goals
    go_wp2_with fail
    go_ret
    obtain ⟨h1, h2⟩ := D.appended ⟨(m : Int) + 1, code, s, k⟩ Hm.out.symm hg4 hown4 hat4
    exact ⟨rfl, ⟨_, h1⟩, h2⟩
end Go.Proofs.YtbkkfkbgcklkgaaGreat
/- The reference's sets (parapetref09): Lawful, Encode, Sign; what one sees (parapetref13.Same). -/
namespace Go.Proofs.YtbkkfkbgcklkgaaGreat
open Go.RowKit
set_option maxHeartbeats 10000000
set_option maxRecDepth 100000

theorem r9lawful_any (p : ParM) (w : World) (ho : p.Ok) : Calls Tryz.prog 36 #[parVal p] w fun e w' => e = .returned (.bool p.lawful) ∧ Below w.heap.size w w' := by
  have hk := ho.code
  obtain ⟨code, out, inn, watch, count⟩ := p
  have hb : ∀ cs t, Below w.heap.size w (w.alloc (.cells cs t)) := fun cs t => (Below.refl _ _).alloc (Nat.le_refl _) _
  obtain ⟨law, Hlaw⟩ : ∃ b, Hid (b = (ParM.mk code out inn watch count).lawful) := ⟨_, Lib.hid rfl⟩
  rw [← Hlaw.out]
  have Hl2 : Hid (law = decide (code ≠ 0 ∧ 1 ≤ out ∧ out ≤ 8 ∧ 1 ≤ inn ∧ inn ≤ 8 ∧ 1 ≤ watch ∧ watch ≤ 1048576 ∧ 2 ≤ count)) := Lib.hid Hlaw.out
  clear Hlaw
  unfold parVal
  simp only at *
  have no : ∀ (q : Prop) [Decidable q], (law = decide q) → ¬ q → law = false := fun q _ h hn => by rw [h]; simpa using hn
  by_cases h1 : code ≤ 0
  · have hl := no _ Hl2.out (by omega)
    have hd : decide (0 < code) = false := by simp; omega
    subst hl
    go_enter Tryz.func36, Tryz.ntmps36
    go_wp2_with fail
    go_ret
    exact ⟨rfl, hb _ _⟩
  by_cases h2 : out < 1
  · have hl := no _ Hl2.out (by omega)
    subst hl
    go_enter Tryz.func36, Tryz.ntmps36
    go_wp2_with fail
    go_ret
    exact ⟨rfl, hb _ _⟩
  by_cases h3 : 8 < out
  · have hl := no _ Hl2.out (by omega)
    subst hl
    go_enter Tryz.func36, Tryz.ntmps36
    go_wp2_with fail
    go_ret
    exact ⟨rfl, hb _ _⟩
  by_cases h4 : inn < 1
  · have hl := no _ Hl2.out (by omega)
    subst hl
    go_enter Tryz.func36, Tryz.ntmps36
    go_wp2_with fail
    go_ret
    exact ⟨rfl, hb _ _⟩
  by_cases h5 : 8 < inn
  · have hl := no _ Hl2.out (by omega)
    subst hl
    go_enter Tryz.func36, Tryz.ntmps36
    go_wp2_with fail
    go_ret
    exact ⟨rfl, hb _ _⟩
  by_cases h6 : watch < 1
  · have hl := no _ Hl2.out (by omega)
    subst hl
    go_enter Tryz.func36, Tryz.ntmps36
    go_wp2_with fail
    go_ret
    exact ⟨rfl, hb _ _⟩
  by_cases h7 : 1048576 < watch
  · have hl := no _ Hl2.out (by omega)
    subst hl
    go_enter Tryz.func36, Tryz.ntmps36
    go_wp2_with fail
    go_ret
    exact ⟨rfl, hb _ _⟩
  · have hl : law = decide (2 ≤ count) := by rw [Hl2.out]; simp only [decide_eq_decide]; omega
    subst hl
    clear Hl2 no
    go_enter Tryz.func36, Tryz.ntmps36
    go_wp2_with fail
    go_ret
    exact ⟨rfl, hb _ _⟩
theorem r9encode_any (p : ParM) (w : World) (ho : p.Ok) (hl : p.lawful = true) :
    Calls Tryz.prog 61 #[parVal p] w fun e w' => ∃ v, e = .returned (.tuple #[v, .int .i64 0]) ∧ w'.ownsRow w.heap.size 5 1 v p.bytes.length (u8c p.bytes) ∧ Below w.heap.size w w' := by
  obtain ⟨i0, hi0, hz0, hz1, hz2⟩ := info_parts byte_info
  have hchk := fun w => r9lawful_any p w ho
  rw [hl] at hchk
  obtain ⟨bs, Hbs⟩ : ∃ b, Hid (b = p.bytes) := ⟨_, Lib.hid rfl⟩
  rw [← Hbs.out]
  have Hw : Hid (0 ≤ p.watch ∧ p.watch < 4294967296) := Lib.hid (by
    simp [ParM.lawful] at hl
    omega)
  obtain ⟨code, hcode⟩ := word_ex ho.code
  obtain ⟨count, hcount⟩ := word_ex ho.count
  obtain ⟨code', out, inn, watch, count'⟩ := p
  simp only at *
  subst hcode hcount
  obtain ⟨wt, hwt⟩ := word_ex Hw.out
  have Hb2 : Hid (bs = (wordOf code ++ [byteOf out, byteOf inn]) ++ wordOf wt ++ wordOf count) := Lib.hid (by
    rw [Hbs.out]
    unfold ParM.bytes
    simp only
    rw [hwt, wordBytes_nat, wordBytes_nat, wordBytes_nat])
  clear Hbs Hw hl ho
  subst hwt
  unfold parVal at *
  simp only at *
  have hwt1 : IntKind.u32.wrap (wt.toNat : Int) = (wt.toNat : Int) := by have := wt.isLt; exact IntWalk.u32_in _ (by omega)
  have hwt2 : (wt.toNat : Int) % 4294967296 = (wt.toNat : Int) := by have := wt.isLt; omega
  go_enter Tryz.func61, Tryz.ntmps61
  go_wp2_with fail
  refine (hchk _).mono ?_
  rintro e w1 ⟨rfl, hb1⟩
  have hB1 := (Blk.new w 35 #[u32v code, .int .i64 out, .int .i64 inn, .int .i64 (wt.toNat : Int), u32v count]).below hb1 (by simp)
  have hbW : Below w.heap.size w w1 := ((Below.refl _ _).alloc (Nat.le_refl _) _).trans (hb1.mono (by simp))
  have hn1 := hbW.size
  have hlt1 := hB1.lt
  have hc1 := hB1.cell
  have hc1a : ∀ o i, (w1.alloc o).cell? ⟨w.heap.size, i, none⟩ = (#[u32v code, .int .i64 out, .int .i64 inn, .int .i64 (wt.toNat : Int), u32v count] : Array Value)[i]? := fun o i => (hB1.alloc o).cell i
  have hown0 : (w1.alloc (.cells #[] 5)).ownsRow w1.heap.size 5 1 (.slice (some ⟨w1.heap.size, 0, none⟩) 0 0) 0 (u8c []) := World.ownsRow_made w1 #[] 0 (Nat.le_refl _) (by unfold maxLen; omega) rfl
  clear hb1 hchk
  go_wp2_with fail
  refine (rword_any code _).mono ?_
  rintro e w2 ⟨v2, rfl, hw2, hb2⟩
  obtain ⟨A2, c2, rfl⟩ := own_slice hw2
  replace hB1 := (hB1.alloc (.cells #[] 5)).below hb2 (hB1.alloc _).lt
  replace hbW := (hbW.alloc hbW.size (.cells #[] 5)).trans (hb2.mono (by simp; omega))
  have hown := own_below hown0 hb2
  have hsz : w1.heap.size ≤ w2.heap.size := by have := hb2.size; simp at this; omega
  have hlt2 := hown.lt
  clear hb2 hown0 hc1 hc1a
  go_wp2_with (first
    | (at_builtin; refine wpList_append_any _ rfl (.tmp 8) (.tmp 11) _ rfl w1.heap.size 5 i0 _ 1 1 Tryz.underlying41 hi0 hz0 hz1 hz2 rfl (by omega) (.slice (some ⟨w1.heap.size, 0, none⟩) 0 0) 0 (u8c []) rfl hown w2.heap.size A2 4 c2 (u8c (wordOf code)) rfl (Reads.of_own hw2) (u8c_one _) (by unfold maxLen; omega) (by omega) hsz ?_; intro v3 w3 hown3 hg3 hat3; rw [← u8c_append] at hown3; simp only [Nat.zero_add, List.nil_append] at hown3; obtain ⟨A3, c3, rfl⟩ := own_slice hown3; have hB3 := hB1.grown hg3 (fun h => by have := (hlt2 _ h).1; omega); have hc3 := hB3.cell; have hbW3 := hbW.grown hg3 hbW.size (fun g h => by have := (hlt2 g h).1; omega); have hsz3 := Nat.le_trans hsz hg3.size; have hlt3 := hown3.lt)
    | (at_builtin; refine wpList_append_any _ rfl (.tmp 13) (.tmp 20) _ rfl w1.heap.size 5 i0 _ 1 1 Tryz.underlying41 hi0 hz0 hz1 hz2 rfl (by omega) (.slice A3 4 c3) 4 (u8c (wordOf code)) rfl (hown3.alloc _) (w3.heap.size + 1) (some ⟨w3.heap.size, 0, none⟩) 2 2 (u8c [byteOf out, byteOf inn]) rfl (by simpa using byte_pair (Blk.new w3 5 _)) (u8c_one _) (by unfold maxLen; omega) (by omega) (by simp; omega) ?_; intro v4 w4 hown4 hg4 hat4; rw [← u8c_append] at hown4; simp only [Nat.reduceAdd] at hown4; obtain ⟨A4, c4, rfl⟩ := own_slice hown4; have hB4 := (hB3.alloc _).grown hg4 (fun h => by have := (hlt3 _ h).1; omega); have hc4 := hB4.cell; have hbW4 := (hbW3.alloc hbW3.size _).grown hg4 (by have := hbW3.size; simp; omega) (fun k hk => by have := (hlt3 k hk).1; omega); have hs4 := hg4.size; have hsz4 : w1.heap.size ≤ w4.heap.size := by simp at hs4; omega))
  refine (rword_any wt _).mono ?_
  rintro e w5 ⟨v5, rfl, hw5, hb5⟩
  obtain ⟨A5, c5, rfl⟩ := own_slice hw5
  have hB5 := hB4.below hb5 hB4.lt
  have hbW5 := hbW4.trans (hb5.mono hbW4.size)
  have hown5 := own_below hown4 hb5
  have hsz5 := Nat.le_trans hsz4 hb5.size
  have hlt5 := hown5.lt
  clear hc3 hc4 hs4
  go_wp2_with (at_builtin; refine wpList_append_any _ rfl (.tmp 22) (.tmp 26) _ rfl w1.heap.size 5 i0 _ 1 1 Tryz.underlying41 hi0 hz0 hz1 hz2 rfl (by omega) (.slice A4 6 c4) 6 (u8c (wordOf code ++ [byteOf out, byteOf inn])) rfl hown5 w5.heap.size A5 4 c5 (u8c (wordOf wt)) rfl (Reads.of_own hw5) (u8c_one _) (by unfold maxLen; omega) (by omega) hsz5 ?_; intro v6 w6 hown6 hg6 hat6; rw [← u8c_append] at hown6; simp only [Nat.reduceAdd] at hown6; obtain ⟨A6, c6, rfl⟩ := own_slice hown6; have hB6 := hB5.grown hg6 (fun h => by have := (hlt5 _ h).1; omega); have hc6 := hB6.cell; have hbW6 := hbW5.grown hg6 hbW5.size (fun g h => by have := (hlt5 g h).1; omega); have hsz6 := Nat.le_trans hsz5 hg6.size)
  refine (rword_any count _).mono ?_
  rintro e w7 ⟨v7, rfl, hw7, hb7⟩
  obtain ⟨A7, c7, rfl⟩ := own_slice hw7
  have hbW7 := hbW6.trans (hb7.mono hbW6.size)
  have hown7 := own_below hown6 hb7
  have hsz7 := Nat.le_trans hsz6 hb7.size
  have hlt7 := hown7.lt
  clear hc6
  go_wp2_with (at_builtin; refine wpList_append_any _ rfl (.tmp 28) (.tmp 31) _ rfl w1.heap.size 5 i0 _ 1 1 Tryz.underlying41 hi0 hz0 hz1 hz2 rfl (by omega) (.slice A6 10 c6) 10 (u8c (wordOf code ++ [byteOf out, byteOf inn] ++ wordOf wt)) rfl hown7 w7.heap.size A7 4 c7 (u8c (wordOf count)) rfl (Reads.of_own hw7) (u8c_one _) (by unfold maxLen; omega) (by omega) hsz7 ?_; intro v8 w8 hown8 hg8 hat8; rw [← u8c_append] at hown8; simp only [Nat.reduceAdd] at hown8; obtain ⟨A8, c8, rfl⟩ := own_slice hown8; have hbW8 := hbW7.grown hg8 hbW7.size (fun g h => by have := (hlt7 g h).1; omega))
  refine bodyPost_ret (v := .tuple #[.slice A8 14 c8, .int .i64 0]) (by simp [results, Tryz.results61, go_sem]) rfl ⟨_, rfl, ?_, hbW8⟩
  rw [Hb2.out]
  have hlen : ((wordOf code ++ [byteOf out, byteOf inn]) ++ wordOf wt ++ wordOf count).length = 14 := by simp [wordOf]
  rw [hlen]
  exact own_base hown8 hn1
theorem r9sign_any (p : ParM) (w : World) (ho : p.Ok) (hl : p.lawful = true) :
    Calls Tryz.prog 29 #[parVal p] w fun e w' => ∃ v, e = .returned v ∧ w'.ownsRow w.heap.size 5 1 v 4 (u8c p.sign) ∧ Below w.heap.size w w' := by
  have henc := fun w => r9encode_any p w ho hl
  have hs : p.sign = wordOf (crcOf 0#32 p.bytes) := rfl
  obtain ⟨bs, Hbs⟩ : ∃ b, Hid (b = p.bytes) := ⟨_, Lib.hid rfl⟩
  rw [hs]
  rw [← Hbs.out] at henc ⊢
  have hlen : bs.length = 14 := by rw [Hbs.out]; simp [ParM.bytes, wordBytes, wordOf]
  rw [hlen] at henc
  have Hlen := Lib.hid hlen
  clear hlen hl ho hs
  obtain ⟨code, out, inn, watch, count⟩ := p
  unfold parVal at *
  simp only at *
  go_enter Tryz.func29, Tryz.ntmps29
  go_wp2_with fail
  refine (henc _).mono ?_
  rintro e w1 ⟨v, rfl, hown, hb1⟩
  obtain ⟨A, c, rfl⟩ := own_slice hown
  have hb1' : Below w.heap.size w w1 := ((Below.refl _ _).alloc (Nat.le_refl _) _).trans (hb1.mono (by simp))
  go_wp2_with fail
  refine (rsum_any A 14 c bs _ w1 (Reads.of_own hown) (Nat.le_refl _) (by omega)).mono ?_
  rintro e w2 ⟨rfl, hb2⟩
  have hb2' := hb1'.trans (hb2.mono hb1'.size)
  go_wp2_with fail
  refine (rword_any _ w2).mono ?_
  rintro e w3 ⟨v3, rfl, hown3, hb3⟩
  go_wp2_with fail
  go_ret
  exact ⟨_, rfl, own_base hown3 hb2'.size, hb2'.trans (hb3.mono hb2'.size)⟩
end Go.Proofs.YtbkkfkbgcklkgaaGreat
/- What both ends of the reference need. -/
namespace Go.Proofs.YtbkkfkbgcklkgaaGreat
open Go.RowKit
set_option maxHeartbeats 10000000
set_option maxRecDepth 100000

section
variable {w : World} {vv : Value}
theorem RVal.ne {x : Option (List UInt8)} {g : Nat} {t : TypeId} {cs : Array Value} (h : RVal w vv x) (hg : Blk w g t cs) (hne : 5 ≠ t) : vv.ownBlock ≠ some g := by
  cases x with
  | none => rw [show vv = .slice none 0 0 from h]; simp [Value.ownBlock]
  | some l => exact own_ne h hg hne
theorem own_obj {base size n : Nat} {e : TypeId} {v : Value} {xs : List Value} {g : Nat} (h : w.ownsRow base e size v n xs) (hg : v.ownBlock = some g) : ∃ cs, Blk w g e cs := by
  rcases h.2 with ⟨rfl, _⟩ | ⟨g', cap, cur, rfl, _, hh, _⟩
  · simp [Value.ownBlock] at hg
  · have : g' = g := by simpa [Value.ownBlock] using hg
    subst this
    exact ⟨cur, hh⟩
end
theorem r13flags_any (b o : Nat) (t : TypeId) (pre post : List Value) (N : Nat) (V : ValveM) (vv : Value) (hold : Bool) (w : World) (hb : Blk w b t (seg pre (rvCs N V vv) post)) (ho : pre.length = o) (hv : RVal w vv V.value) (hN : N ≤ 8) (hval : ∀ l, V.value = some l → l.length = N) :
    Calls Tryz.prog 107 #[.pointer (some ⟨b, o, none⟩), .bool hold] w fun e w' => e = .returned (.int .i64 (flagsM V hold)) ∧ Below w.heap.size w w' := by
  obtain ⟨fl, Hfl⟩ : ∃ x, Hid (x = flagsM V hold) := ⟨_, Lib.hid rfl⟩
  rw [← Hfl.out]
  have hout := rvOutput_any b o t pre post V vv w N hb ho hv hN hval
  have hreq := fun w' hb' => rvRequest_any b o t pre post N V vv w' hb' ho
  clear hv hval
  cases hon : V.on <;> cases hrq : V.request <;> cases hlt : (V.latched != 0) <;> cases hho : hold
  all_goals
    rw [hon] at hout
    rw [hrq] at hreq
    go_enter Tryz.func107, Tryz.ntmps107
    go_wp2_with fail
    refine hout.mono ?_
    rintro e w1 ⟨x, rfl, hownx, hb1⟩
    obtain ⟨Ax, cx, rfl⟩ := own_slice hownx
    have hB1 := hb.below hb1 hb.lt
    obtain ⟨c0, c1, c2, c3, c4, c5, c6⟩ := rv_cells hB1 ho
    clear hownx hout
    go_wp2_with fail
    refine (hreq w1 hB1).mono ?_
    rintro e w2 ⟨rfl, rfl⟩
    clear c0 c1 c2 c3 c5 c6 hreq
    go_wp2_with fail
    go_ret
    refine ⟨?_, hb1⟩
    have e1 : (V.latched = 0) = (¬ (V.latched != 0) = true) := by simp
    rw [Hfl.out]
    unfold flagsM
    simp only [hon, hrq, hho, e1, hlt]
    rfl
theorem ack_val (V : ValveM) : V.ack.value = V.value := by
  unfold ValveM.ack
  split <;> rfl
theorem run_val (V : ValveM) (on : Bool) (vv : Value) : ((if V.running = on then vv else .slice none 0 0) = vv ∧ (V.run on).value = V.value) ∨ ((if V.running = on then vv else .slice none 0 0) = .slice none 0 0 ∧ (V.run on).value = none) := by
  unfold ValveM.run
  by_cases h : V.running = on
  · left; rw [if_pos h, if_pos h]; exact ⟨rfl, rfl⟩
  · right; rw [if_neg h, if_neg h]; exact ⟨rfl, rfl⟩
theorem r13same_any (e : EndM) (A1 A2 : Option Addr) (c1 c2 B : Nat) (w : World) (h1 : Reads w B 1 A1 e.out.length (u8c e.out)) (h2 : Reads w B 1 A2 e.out.length (u8c e.out)) (hB : B ≤ w.heap.size) :
    Calls Tryz.prog 22 #[endVal e (.slice A1 e.out.length c1), endVal e (.slice A2 e.out.length c2)] w fun r w' => r = .returned (.bool true) ∧ Below w.heap.size w w' := by
  have k1 : ∀ o1 o2, (convert 41 9 (.slice A1 e.out.length c1)).run Tryz.prog ((w.alloc o1).alloc o2) = .ok (.string ⟨e.out.toArray⟩) ((w.alloc o1).alloc o2) := fun o1 o2 => conv_reads ((h1.alloc hB o1).alloc (by simp; omega) o2)
  have k2 : ∀ o1 o2, (convert 41 9 (.slice A2 e.out.length c2)).run Tryz.prog ((w.alloc o1).alloc o2) = .ok (.string ⟨e.out.toArray⟩) ((w.alloc o1).alloc o2) := fun o1 o2 => conv_reads ((h2.alloc hB o1).alloc (by simp; omega) o2)
  obtain ⟨state, session, number, sent, since, latched, request, on, out⟩ := e
  unfold endVal
  simp only at *
  have hb : ∀ o1 o2, Below w.heap.size w ((w.alloc o1).alloc o2) := fun o1 o2 => ((Below.refl _ _).alloc (Nat.le_refl _) o1).alloc (by simp) o2
  have q1 : ∀ W, (binOp .eql 4 (.bool request) (.bool request)).run Tryz.prog W = .ok (.bool true) W := by cases request <;> exact fun _ => by kernel_rfl
  have q2 : ∀ W, (binOp .eql 4 (.bool on) (.bool on)).run Tryz.prog W = .ok (.bool true) W := by cases on <;> exact fun _ => by kernel_rfl
  clear h1 h2 hB
  go_enter Tryz.func22, Tryz.ntmps22
  go_wp2_with fail
  go_ret
  exact ⟨by simp, hb _ _⟩
theorem lawSmall_any (w : World) : Calls Tryz.prog 16 #[] w fun e w' => e = .returned (parVal smallM) ∧ Below w.heap.size w w' := by
  go_enter Tryz.func16, Tryz.ntmps16
  go_wp2_with fail
  refine bodyPost_ret (v := parVal smallM) (by simp [results, Tryz.results16, go_sem, parVal, smallM]) rfl ⟨rfl, ?_⟩
  exact (Below.refl _ _).alloc (Nat.le_refl _) _
end Go.Proofs.YtbkkfkbgcklkgaaGreat
/- What always holds of a device: plain. -/
namespace Go.Proofs.YtbkkfkbgcklkgaaGreat

theorem writeSlot_len (m : MemM) (k : Nat) (x : Int) : (m.writeSlot k x).1.b.length = m.b.length := by
  have key : ∀ (l : List (Nat × UInt8)) (m : MemM), (m.writeAll l).1.b.length = m.b.length := by
    intro l
    induction l with
    | nil => intro m; rfl
    | cons x r ih =>
      intro m
      have hw : (m.write x.1 x.2).1.b.length = m.b.length := by
        rcases m.write_b x.1 x.2 with e | e <;> rw [e]
        exact List.length_set
      unfold MemM.writeAll
      split
      · exact hw
      · rw [ih, hw]
  exact key _ _
theorem mend_len (m : MemM) (k : Nat) : (m.mend k).1.b.length = m.b.length := by
  unfold MemM.mend
  split
  · exact writeSlot_len _ _ _
  split
  · rcases m.write_b (5 * k) 0 with e | e <;> rw [e]
    exact List.length_set
  · rfl
theorem openM_len (m : MemM) (mx : Int) : (openM m mx).1.b.length = m.b.length := by
  unfold openM
  split
  · rfl
  split
  · rfl
  simp only
  split
  · exact mend_len m 0
  split
  · exact (mend_len _ 1).trans (mend_len m 0)
  · exact (mend_len _ 1).trans (mend_len m 0)
theorem top_range (m : MemM) : 0 ≤ m.top ∧ m.top < 4294967296 := by
  have h0 := m.word_range 0
  have h1 := m.word_range 1
  unfold MemM.top
  simp only
  split <;> split <;> omega
/-- What is opened, where it is. -/
theorem openM_some {m : MemM} {mx : Int} {k : CellM} (h : (openM m mx).2.1 = some k) : k.max = mx ∧ (0 ≤ k.value ∧ k.value < 4294967296) ∧ (openM m mx).2.2 = 0 := by
  have ht := top_range m
  unfold openM at h ⊢
  split at h
  · cases h
  rename_i h1
  rw [if_neg h1]
  split at h
  · cases h
  rename_i h2
  rw [if_neg h2]
  simp only at h ⊢
  split at h
  · cases h
  rename_i h3
  rw [if_neg h3]
  split at h
  · cases h
  rename_i h4
  rw [if_neg h4]
  simp only [Option.some.injEq] at h
  subst h
  exact ⟨rfl, ht, rfl⟩
theorem openM_none {m : MemM} {mx : Int} (h : (openM m mx).2.1 = none) : (openM m mx).2.2 ≠ 0 := by
  unfold openM at h ⊢
  split
  · simp
  rename_i h1
  rw [if_neg h1] at h
  split
  · simp
  rename_i h2
  rw [if_neg h2] at h
  simp only at h ⊢
  split
  · rename_i h3; exact h3
  rename_i h3
  rw [if_neg h3] at h
  split
  · rename_i h4; exact h4
  rename_i h4
  rw [if_neg h4] at h
  simp at h
theorem next_form (c : CellM) (m : MemM) : c.next m = (c, m, 0, 70) ∨ (c.max ≤ c.value ∧ c.next m = (c, m, 0, 80)) ∨ (c.value < c.max ∧ ∃ k, c.next m = ({ c with dead := true }, (m.writeSlot k (c.value + 1)).1, 0, 70) ∨ c.next m = ({ c with value := c.value + 1 }, (m.writeSlot k (c.value + 1)).1, c.value + 1, 0)) := by
  unfold CellM.next
  by_cases h0 : (c.dead || m.off) = true
  · rw [if_pos h0]; exact .inl rfl
  · rw [if_neg h0]
    by_cases h1 : c.max ≤ c.value
    · rw [if_pos h1]; exact .inr (.inl ⟨h1, rfl⟩)
    · rw [if_neg h1]
      refine .inr (.inr ⟨by omega, (if m.holds 0 && (!m.holds 1 || decide (m.word 1 < m.word 0)) then 1 else 0), ?_⟩)
      generalize (if m.holds 0 && (!m.holds 1 || decide (m.word 1 < m.word 0)) then 1 else 0) = k
      simp only
      by_cases h2 : (m.writeSlot k (c.value + 1)).2 ≠ 0
      · rw [if_pos h2]; exact .inl rfl
      · rw [if_neg h2]; exact .inr rfl
theorem next_len (c : CellM) (m : MemM) : (c.next m).2.1.b.length = m.b.length := by
  rcases next_form c m with e | ⟨_, e⟩ | ⟨_, k, e | e⟩ <;> rw [e]
  · exact writeSlot_len _ _ _
  · exact writeSlot_len _ _ _
theorem next_cell (c : CellM) (m : MemM) (hv : 0 ≤ c.value) (hm : c.max < 4294967296) (hv2 : c.value < 4294967296) :
    (c.next m).1.max = c.max ∧ (0 ≤ (c.next m).1.value ∧ (c.next m).1.value < 4294967296) ∧ (0 ≤ (c.next m).2.2.1 ∧ (c.next m).2.2.1 < 4294967296) := by
  rcases next_form c m with e | ⟨_, e⟩ | ⟨_, k, e | e⟩ <;> rw [e] <;> dsimp only <;> omega
theorem next_err (c : CellM) (m : MemM) : (c.next m).2.2.2 = 0 ∨ (c.next m).2.2.2 = 70 ∨ (c.next m).2.2.2 = 80 := by
  rcases next_form c m with e | ⟨_, e⟩ | ⟨_, k, e | e⟩ <;> rw [e] <;> simp
/-- What always holds of a device. -/
structure DevM.Inv (m : DevM) : Prop where
  pok : m.p.Ok
  plaw : m.p.lawful = true
  mx : 0 ≤ m.max ∧ m.max < 4294967296
  session : 0 ≤ m.session ∧ m.session < 4294967296
  number : 0 ≤ m.number ∧ m.number < 4294967296
  sent : 0 ≤ m.sent ∧ m.sent ≤ m.number
  state : 1 ≤ m.state ∧ m.state ≤ 6
  odd : 0 ≤ m.odd ∧ m.odd ≤ 3
  since : 0 ≤ m.since ∧ m.since ≤ m.p.watch
  value : (m.value.length : Int) = m.p.inn
  vval : ∀ b, m.valve.value = some b → (b.length : Int) = m.p.out
  cmax : m.cell.max = m.max
  cval : 0 ≤ m.cell.value ∧ m.cell.value < 4294967296
  mem : 10 ≤ m.m.b.length
  fr : m.valve.fresh = true → m.valve.latched ≠ 0
namespace DevM.Inv
variable {m : DevM}
theorem p8 (h : m.Inv) : (1 ≤ m.p.out ∧ m.p.out ≤ 8) ∧ (1 ≤ m.p.inn ∧ m.p.inn ≤ 8) ∧ (1 ≤ m.p.watch ∧ m.p.watch ≤ 1048576) ∧ 2 ≤ m.p.count ∧ m.p.count < 4294967296 := by
  have hl := h.plaw
  have := h.pok.count
  simp [ParM.lawful] at hl
  omega
theorem trip (h : m.Inv) (code : Int) : (m.trip code).Inv := { h with vval := valve_trip_val h.vval, fr := fr_trip h.fr }
theorem alive (h : m.Inv) : m.alive.Inv := { h with odd := by simp [DevM.alive], since := by have := h.p8; simp only [DevM.alive]; omega, fr := fr_come _ }
theorem run (h : m.Inv) (on : Bool) : (m.run on).Inv := { h with vval := valve_run_val h.vval, fr := fr_run h.fr }
theorem toSt (h : m.Inv) (s : Int) (hs : 1 ≤ s ∧ s ≤ 6) : ({ m with state := s } : DevM).Inv := { h with state := hs }
theorem leave (h : m.Inv) (s : Int) (hs : 1 ≤ s ∧ s ≤ 6) : (m.leave s).Inv :=
  { h with state := hs, session := by simp [DevM.leave], number := by simp [DevM.leave], sent := by simp [DevM.leave], odd := by simp [DevM.leave], vval := valve_run_val h.vval, fr := fr_run h.fr }
theorem log (h : m.Inv) (l : List Rec) : ({ m with log := l } : DevM).Inv := { h with }
theorem made {p : ParM} {M : MemM} {mx : Int} {C : CellM} {L : List Rec} {s : Int} (hs : 1 ≤ s ∧ s ≤ 6) (hp : p.Ok) (hl : p.lawful = true) (hmx : 0 ≤ mx ∧ mx < 4294967296) (hc : C.max = mx) (hv : 0 ≤ C.value ∧ C.value < 4294967296) (hm : 10 ≤ M.b.length) :
    ({ p := p, m := M, max := mx, cell := C, log := L, state := s, value := List.replicate p.inn.toNat 0 } : DevM).Inv := by
  have hl' := hl
  simp [ParM.lawful] at hl'
  exact { pok := hp, plaw := hl, mx := hmx, session := by simp, number := by simp, sent := by simp, state := hs, odd := by simp, since := by simp; omega, value := by simp; omega, vval := fun b hb => (by cases hb), cmax := hc, cval := hv, mem := hm, fr := fun h => (by cases h) }
theorem life (h : m.Inv) (s : Int) (hs : 1 ≤ s ∧ s ≤ 6) : (m.life s).Inv := made hs h.pok h.plaw h.mx h.cmax h.cval h.mem
theorem strange (h : m.Inv) : m.strange.1.Inv := by
  have ho := h.odd
  unfold DevM.strange
  split
  · exact h
  · simp only
    split
    · exact { h with odd := by simp only; omega }
    · split
      · have h1 := (h.trip 131).leave 1 (by omega)
        exact h1
      · have h1 := h.leave 1 (by omega)
        exact h1
theorem odds (h : m.Inv) (e : Int) : (m.odds e).1.Inv := h.strange
theorem begin_ (h : m.Inv) : m.begin_.1.Inv := by
  have hc := next_cell m.cell m.m h.cval.1 (by rw [h.cmax]; exact h.mx.2) h.cval.2
  have hl := next_len m.cell m.m
  have hcm := h.cmax
  have hme := h.mem
  unfold DevM.begin_
  generalize m.cell.next m.m = r at *
  obtain ⟨c, m', s, e⟩ := r
  simp only at *
  have hg : ({ m with cell := c, m := m' } : DevM).Inv := { h with cmax := by simp only; omega, cval := hc.2.1, mem := by simp only; omega }
  split
  · exact (hg.trip 80).leave 5 (by omega)
  · split
    · exact hg.life 6 (by omega)
    · exact { hg.leave 2 (by omega) with session := hc.2.2 }
theorem wish (h : m.Inv) : m.wish.1.Inv := by
  unfold DevM.wish
  split
  · simp only
    split
    · exact h.strange.begin_
    · split
      · exact h.strange
      · exact h.strange
  · exact h.begin_
theorem take (h : m.Inv) {u : UnitM} (hn : 0 ≤ u.number ∧ u.number < 4294967296) : (m.take u).1.Inv := by
  have hp := h.p8
  have hs := h.sent
  unfold DevM.take
  split
  · split
    · exact h.wish
    · exact h.odds _
  split
  · split
    · exact h.odds _
    · simp only
      split
      · exact (h.toSt 3 (by omega)).alive
      · exact h
  split
  · simp only
    split
    · exact ((h.toSt 4 (by omega)).run true).alive
    · exact h
  split
  · rename_i hc
    have h1 : ({ m with number := u.number } : DevM).Inv := { h with number := hn, sent := by simp only; omega }
    have h2 := h1.alive
    refine { h2 with sent := ?_, vval := ?_, fr := fr_take (V := (DevM.alive _).valve.hold _) h2.fr }
    · show 0 ≤ m.sent + 1 ∧ m.sent + 1 ≤ u.number
      omega
    · intro b hb
      simp only [ValveM.take] at hb
      split at hb
      · simp only [Option.some.injEq] at hb
        subst hb
        exact hc.2.2.2.2.1
      · exact h2.vval b hb
  split
  · rename_i hc
    have h1 : ({ m with number := u.number } : DevM).Inv := { h with number := hn, sent := by simp only; omega }
    have h2 := h1.alive.trip 80
    have h3 : ({ (({ m with number := u.number } : DevM).alive).trip 80 with sent := m.p.count } : DevM).Inv := { h2 with sent := by show 0 ≤ m.p.count ∧ m.p.count ≤ u.number; omega }
    exact (h3.run false).toSt 5 (by omega)
  · exact h.odds _
theorem read (h : m.Inv) (l : List UInt8) : (m.read l).1.Inv := by
  have hd := decode_ok l
  unfold DevM.read
  simp only
  split
  · exact h
  split
  · exact h
  split
  · exact h
  · exact h.take hd.2.1
theorem receive (h : m.Inv) (l : List UInt8) : (m.receive l).1.Inv := by
  unfold DevM.receive
  split
  · exact h
  · simp only
    split
    · exact h.read l
    · exact (h.read l).log _
theorem write (h : m.Inv) (b : List UInt8) (hold : Bool) : (m.write b hold).1.Inv := by
  unfold DevM.write
  split
  · exact h
  split
  · exact h
  · rename_i hq
    exact { h with value := by simpa using hq }
theorem tick (h : m.Inv) (n : Int) : (m.tick n).1.Inv := by
  have hs := h.since
  unfold DevM.tick
  split
  · exact h
  split
  · exact h
  · have h1 : ({ m with since := (ticksM m.p.watch m.since n).1 } : DevM).Inv := by
      refine { h with since := ?_ }
      simp only
      unfold ticksM
      split
      · exact hs
      · split
        · simp only; omega
        · simp only; omega
    simp only
    split
    · exact h1.trip 100
    · exact h1
theorem ack (h : m.Inv) : m.ack.1.Inv := by
  unfold DevM.ack
  split
  · exact h
  split
  · refine { h with vval := ?_, fr := fr_ack h.fr }
    intro b hb
    unfold ValveM.ack at hb
    split at hb <;> exact h.vval b hb
  · exact h
theorem arm (h : m.Inv) (n : Int) : ({ m with m := (m.m.arm n).1 } : DevM).Inv := { h with mem := by show 10 ≤ (m.m.arm n).1.b.length; unfold MemM.arm; split <;> exact h.mem }
theorem reset (h : m.Inv) (n : Int) : (m.reset n).1.Inv := by
  unfold DevM.reset
  split
  · exact h
  · have hb : (if 0 < n then (m.m.on.arm (n - 1)).1 else m.m.on).b.length = m.m.b.length := by
      split
      · unfold MemM.arm; split <;> rfl
      · rfl
    have hl := openM_len (if 0 < n then (m.m.on.arm (n - 1)).1 else m.m.on) m.max
    have ho := fun k h => openM_some (m := (if 0 < n then (m.m.on.arm (n - 1)).1 else m.m.on)) (mx := m.max) (k := k) h
    have hme := h.mem
    simp only
    generalize openM (if 0 < n then (m.m.on.arm (n - 1)).1 else m.m.on) m.max = r at *
    obtain ⟨m', k, e⟩ := r
    simp only at *
    cases k with
    | none => exact { h.life 6 (by omega) with mem := by simp only; omega }
    | some k =>
      obtain ⟨h1, h2, h3⟩ := ho k rfl
      exact { h.life 1 (by omega) with cmax := h1, cval := h2, mem := by simp only; omega }
end DevM.Inv
theorem DevM.inv_new {p : ParM} {m m' : MemM} {mx e : Int} {d : DevM} (hp : p.Ok) (hmx : 0 ≤ mx ∧ mx < 4294967296) (h : DevM.new p m mx = (m', some d, e)) : d.Inv ∧ e = 0 := by
  unfold DevM.new at h
  split at h
  · simp at h
  rename_i hl
  simp only [Bool.not_eq_true, Bool.not_eq_false'] at hl
  have hln := openM_len m mx
  have ho := fun k h => openM_some (m := m) (mx := mx) (k := k) h
  have h10 : (∃ k, (openM m mx).2.1 = some k) → 10 ≤ m.b.length := by
    rintro ⟨k, hk⟩
    unfold openM at hk
    split at hk
    · cases hk
    · omega
  generalize openM m mx = r at *
  obtain ⟨m1, k, e1⟩ := r
  simp only at *
  cases k with
  | none => simp at h
  | some k =>
    simp only [Prod.mk.injEq, Option.some.injEq] at h
    obtain ⟨rfl, rfl, rfl⟩ := h
    obtain ⟨h1, h2, h3⟩ := ho k rfl
    exact ⟨.made (by omega) hp hl hmx h1 h2 (by rw [hln]; exact h10 ⟨k, rfl⟩), rfl⟩
end Go.Proofs.YtbkkfkbgcklkgaaGreat
