/- The base of the laws, part 14: contracts and plain lemmas, no statement. -/
import Derived.Test.YtlldgfejcjnpkaaGreatBase2
import Derived.Test.YtlldgfejcjnpkaaGreatBase5
import Derived.Test.YtlldgfejcjnpkaaGreatBase10
import Derived.Test.YtlldgfejcjnpkaaGreatBase11
import Derived.Test.YtlldgfejcjnpkaaGreatBase12
import Derived.Test.YtlldgfejcjnpkaaGreatBase13
set_option linter.unusedVariables false
/- The reference's memory by its contracts. -/
namespace Go.Proofs.YtlldgfejcjnpkaaGreat
open Go.RowKit
set_option maxHeartbeats 4000000
set_option maxRecDepth 100000

def rmemCells (row : Value) (m : MemM) (wr : Int) : Array Value := #[row, .bool m.off, .bool m.armed, .int .i64 m.left, .int .i64 wr]
/-- A memory at block mb: its bytes' row. -/
structure RMemAt (w : World) (mb : Nat) (m : MemM) (F : Nat → Prop) (row : Value) (wr : Int) : Prop where
  blk : Blk w mb 120 (rmemCells row m wr)
  bytes : w.ownsRow 0 5 1 row m.b.length (u8c m.b)
  fb : F mb
  fr : ∀ x, row.ownBlock = some x → F x
  len : m.b.length ≤ 4096
  left : 0 ≤ m.left ∧ m.left < 9223372036854775808
def RMemIs (w : World) (mb : Nat) (m : MemM) (F : Nat → Prop) : Prop := ∃ row wr, RMemAt w mb m F row wr
section
variable {w w' : World} {mb : Nat} {m m' : MemM} {F F' S : Nat → Prop} {row : Value} {wr wr' : Int}
theorem RMemAt.keep (h : RMemAt w mb m F row wr) (hk : Keep S w w') (hS : ∀ x, F x → ¬ S x) (hF : ∀ x, F x → F' x) : RMemAt w' mb m F' row wr where
  blk := h.blk.keep hk (hS _ h.fb)
  bytes := ownsRow_keep h.bytes hk (fun x hx => hS _ (h.fr x hx))
  fb := hF _ h.fb
  fr := fun x hx => hF _ (h.fr x hx)
  len := h.len
  left := h.left
theorem RMemIs.keep (h : RMemIs w mb m F) (hk : Keep S w w') (hS : ∀ x, F x → ¬ S x) (hF : ∀ x, F x → F' x) : RMemIs w' mb m F' := by
  obtain ⟨row, wr, h⟩ := h
  exact ⟨row, wr, h.keep hk hS hF⟩
theorem RMemIs.below (h : RMemIs w mb m F) (hb : Below w.heap.size w w') : RMemIs w' mb m F := h.keep (S := fun _ => False) (Keep.of_below hb) (fun _ _ h => h) (fun _ h => h)
theorem RMemIs.drewN (h : RMemIs w mb m F) (k : Nat) : RMemIs (w.drewN k) mb m F := h.keep (S := fun _ => False) ((Keep.refl _ w).drewN k) (fun _ _ h => h) (fun _ h => h)
/-- Behind a store into its block. -/
theorem RMemAt.upd (h : RMemAt w mb m F row wr) (hk : Keep (fun x => x = mb) w w') (hb : Blk w' mb 120 (rmemCells row m' wr')) (e : m'.b = m.b) (hl : 0 ≤ m'.left ∧ m'.left < 9223372036854775808) : RMemAt w' mb m' F row wr' where
  blk := hb
  bytes := by rw [e]; exact ownsRow_keep h.bytes hk (fun x hx e => own_ne h.bytes h.blk (by decide) (e ▸ hx))
  fb := h.fb
  fr := h.fr
  len := by rw [e]; exact h.len
  left := hl
end
/-- What a call on a memory leaves. -/
structure RMemTo (w : World) (mb : Nat) (m : MemM) (F : Nat → Prop) (w' : World) : Prop where
  is_ : RMemIs w' mb m F
  keep : Keep F w w'
  size : w'.heap.size = w.heap.size
theorem rmemArm_any (mb : Nat) (m : MemM) (F : Nat → Prop) (n : Int) (w : World) (h : RMemIs w mb m F) (hn : n < 9223372036854775808) :
    Calls Tryz.prog 70 #[.pointer (some ⟨mb, 0, none⟩), .int .i64 n] w fun e w' => e = .returned (.int .i64 (m.arm n).2) ∧ RMemTo w mb (m.arm n).1 F w' := by
  obtain ⟨row, wr, h⟩ := h
  have hc := h.blk.cell
  have hf := h.blk.frozen
  unfold rmemCells at hc
  by_cases h0 : n < 0
  · have e1 : m.arm n = (m, 2) := by unfold MemM.arm; rw [if_pos h0]
    rw [e1]
    go_enter Tryz.func70, Tryz.ntmps70
    go_wp2_with fail
    go_ret
    exact ⟨rfl, ⟨row, wr, h⟩, Keep.refl _ _, rfl⟩
  · have e1 : m.arm n = ({ m with armed := true, left := n }, 0) := by unfold MemM.arm; rw [if_neg h0]
    rw [e1]
    have h1 : RMemAt ((w.setCell ⟨mb, 2, none⟩ (.bool true)).setCell ⟨mb, 3, none⟩ (.int .i64 n)) mb { m with armed := true, left := n } F row wr :=
      h.upd (((Keep.refl (fun x => x = mb) w).setCell (p := ⟨mb, 2, none⟩) (fun _ => rfl) _).setCell (p := ⟨mb, 3, none⟩) (fun _ => rfl) _) (by simpa [rmemCells] using (h.blk.set_ 2 (.bool true)).set_ 3 (.int .i64 n)) rfl ⟨by simp only; omega, by simp only; omega⟩
    have hk1 : Keep F w ((w.setCell ⟨mb, 2, none⟩ (.bool true)).setCell ⟨mb, 3, none⟩ (.int .i64 n)) := ((Keep.refl F w).setCell (p := ⟨mb, 2, none⟩) (fun _ => h.fb) _).setCell (p := ⟨mb, 3, none⟩) (fun _ => h.fb) _
    go_enter Tryz.func70, Tryz.ntmps70
    go_wp2_with fail
    go_ret
    exact ⟨rfl, ⟨row, wr, h1⟩, hk1, by simp [World.setCell]⟩
theorem rmemOn_any (mb : Nat) (m : MemM) (F : Nat → Prop) (w : World) (h : RMemIs w mb m F) :
    Calls Tryz.prog 122 #[.pointer (some ⟨mb, 0, none⟩)] w fun e w' => e = .returned (.tuple #[]) ∧ RMemTo w mb m.on F w' := by
  obtain ⟨row, wr, h⟩ := h
  have hc := h.blk.cell
  have hf := h.blk.frozen
  unfold rmemCells at hc
  have h2 : RMemAt ((w.setCell ⟨mb, 1, none⟩ (.bool false)).setCell ⟨mb, 2, none⟩ (.bool false)) mb m.on F row wr :=
    h.upd (((Keep.refl (fun x => x = mb) w).setCell (p := ⟨mb, 1, none⟩) (fun _ => rfl) _).setCell (p := ⟨mb, 2, none⟩) (fun _ => rfl) _) (by simpa [rmemCells, MemM.on] using (h.blk.set_ 1 (.bool false)).set_ 2 (.bool false)) rfl h.left
  have hk2 : Keep F w ((w.setCell ⟨mb, 1, none⟩ (.bool false)).setCell ⟨mb, 2, none⟩ (.bool false)) := ((Keep.refl F w).setCell (p := ⟨mb, 1, none⟩) (fun _ => h.fb) _).setCell (p := ⟨mb, 2, none⟩) (fun _ => h.fb) _
  go_enter Tryz.func122, Tryz.ntmps122
  go_wp2_with fail
  go_end0
  exact ⟨rfl, ⟨row, wr, h2⟩, hk2, by simp [World.setCell]⟩
theorem rmemSet {w : World} {mb g c : Nat} {m m' : MemM} {F : Nat → Prop} {wr wr' : Int} (_ : RMemAt w mb m F (.slice (some ⟨g, 0, none⟩) m.b.length c) wr) (i : Nat) (x : UInt8) {W : World} (hW : RMemAt W mb m' F (.slice (some ⟨g, 0, none⟩) m.b.length c) wr') (hb : m'.b = m.b) : RMemAt (W.setCell ⟨g, i, none⟩ (.int .u8 (x.toNat : Int))) mb { m' with b := m'.b.set i x } F (.slice (some ⟨g, 0, none⟩) m.b.length c) wr' := by
  have hne : mb ≠ g := fun e => own_ne hW.bytes hW.blk (by decide) (by rw [e]; simp [Value.ownBlock])
  have hown := hW.bytes
  rw [hb] at hown
  have h2 := own_set1 hown i (.int .u8 (x.toNat : Int))
  exact { blk := hW.blk.far (p := ⟨g, i, none⟩) hne _, bytes := by simpa [u8c, List.map_set, hb] using h2, fb := hW.fb, fr := hW.fr, len := by simpa using hW.len, left := hW.left }
theorem rmemWrite_any (mb : Nat) (m : MemM) (F : Nat → Prop) (i : Nat) (x : UInt8) (w : World) (h : RMemIs w mb m F) (hi : i < m.b.length) :
    Calls Tryz.prog 102 #[.pointer (some ⟨mb, 0, none⟩), .int .i64 i, .int .u8 (x.toNat : Int)] w fun e w' => e = .returned (.int .i64 (m.write i x).2) ∧ RMemTo w mb (m.write i x).1 F w' := by
  obtain ⟨row, wr, h⟩ := h
  obtain ⟨A, c, rfl⟩ := own_slice h.bytes
  have hlen := h.len
  have hc := h.blk.cell
  have hf := h.blk.frozen
  unfold rmemCells at hc
  obtain ⟨g, rfl, hcell⟩ := own_cell1 h.bytes (by omega)
  have hgv := hcell i hi
  have hgf := (own_at (k := i) h.bytes).1
  have hne : mb ≠ g := fun e => own_ne h.bytes h.blk (by decide) (by rw [e]; simp [Value.ownBlock])
  have hFg : F g := h.fr g (by simp [Value.ownBlock])
  have hil : ¬ m.b.length ≤ i := by omega
  clear hcell
  cases ho : m.off with
  | true =>
    rw [ho] at hc
    have e1 : m.write i x = (m, 70) := by unfold MemM.write; rw [if_pos ho]
    rw [e1]
    go_enter Tryz.func102, Tryz.ntmps102
    go_wp2_with fail
    go_ret
    exact ⟨rfl, ⟨_, wr, h⟩, Keep.refl _ _, rfl⟩
  | false =>
    rw [ho] at hc
    cases ha : m.armed with
    | true =>
      by_cases h0 : m.left = 0
      · have e1 : m.write i x = ({ m with off := true }, 70) := by unfold MemM.write; rw [if_neg (by simp [ho]), if_neg hil, if_pos (by simp [ha, h0])]
        rw [e1]
        have h1 : RMemAt (w.setCell ⟨mb, 1, none⟩ (.bool true)) mb { m with off := true } F (.slice (some ⟨g, 0, none⟩) m.b.length c) wr :=
          h.upd ((Keep.refl (fun x => x = mb) w).setCell (p := ⟨mb, 1, none⟩) (fun _ => rfl) _) (by simpa [rmemCells] using h.blk.set_ 1 (.bool true)) rfl h.left
        have hk1 : Keep F w (w.setCell ⟨mb, 1, none⟩ (.bool true)) := (Keep.refl F w).setCell (p := ⟨mb, 1, none⟩) (fun _ => h.fb) _
        rw [ha, h0] at hc
        go_enter Tryz.func102, Tryz.ntmps102
        go_wp2_with fail
        go_ret
        exact ⟨rfl, ⟨_, wr, h1⟩, hk1, by simp [World.setCell]⟩
      · have e1 : m.write i x = ({ m with left := m.left - 1, b := m.b.set i x, writes := m.writes + 1 }, 0) := by unfold MemM.write; rw [if_neg (by simp [ho]), if_neg hil, if_neg (by simp [h0])]; simp [ha]
        rw [e1]
        have hlf := h.left
        have hlw : IntKind.i64.wrap (m.left - 1) = m.left - 1 := IntWalk.i64_in _ (by omega)
        have g0 : (m.left == 0) = false := by simpa using h0
        have h1 : RMemAt (w.setCell ⟨mb, 3, none⟩ (.int .i64 (m.left - 1))) mb { m with left := m.left - 1 } F (.slice (some ⟨g, 0, none⟩) m.b.length c) wr :=
          h.upd ((Keep.refl (fun x => x = mb) w).setCell (p := ⟨mb, 3, none⟩) (fun _ => rfl) _) (by simpa [rmemCells] using h.blk.set_ 3 (.int .i64 (m.left - 1))) rfl (by simp only; omega)
        have h2 := rmemSet h i x h1 rfl
        have h3 : RMemAt (((w.setCell ⟨mb, 3, none⟩ (.int .i64 (m.left - 1))).setCell ⟨g, i, none⟩ (.int .u8 (x.toNat : Int))).setCell ⟨mb, 4, none⟩ (.int .i64 (wrap64 (wr + 1)))) mb { m with left := m.left - 1, b := m.b.set i x, writes := m.writes + 1 } F (.slice (some ⟨g, 0, none⟩) m.b.length c) (wrap64 (wr + 1)) := by
          have hz : (m.b.set i x).length = m.b.length := List.length_set
          have := RMemAt.upd (m' := { m with left := m.left - 1, b := m.b.set i x, writes := m.writes + 1 }) (wr' := wrap64 (wr + 1)) h2 ((Keep.refl (fun x => x = mb) _).setCell (p := ⟨mb, 4, none⟩) (fun _ => rfl) (.int .i64 (wrap64 (wr + 1)))) (by simpa [rmemCells] using h2.blk.set_ 4 (.int .i64 (wrap64 (wr + 1)))) rfl (by simp only; omega)
          exact this
        have hk3 : Keep F w (((w.setCell ⟨mb, 3, none⟩ (.int .i64 (m.left - 1))).setCell ⟨g, i, none⟩ (.int .u8 (x.toNat : Int))).setCell ⟨mb, 4, none⟩ (.int .i64 (wrap64 (wr + 1)))) :=
          (((Keep.refl F w).setCell (p := ⟨mb, 3, none⟩) (fun _ => h.fb) _).setCell (p := ⟨g, i, none⟩) (fun _ => hFg) _).setCell (p := ⟨mb, 4, none⟩) (fun _ => h.fb) _
        rw [ha] at hc
        go_enter Tryz.func102, Tryz.ntmps102
        go_wp2_with fail
        go_ret
        rw [ho, ha] at h3
        exact ⟨rfl, ⟨_, _, h3⟩, hk3, by simp [World.setCell]⟩
    | false =>
      have e1 : m.write i x = ({ m with left := m.left, b := m.b.set i x, writes := m.writes + 1 }, 0) := by unfold MemM.write; rw [if_neg (by simp [ho]), if_neg hil, if_neg (by simp [ha])]; simp [ha]
      rw [e1]
      have h2 := rmemSet h i x h rfl
      have h3 : RMemAt ((w.setCell ⟨g, i, none⟩ (.int .u8 (x.toNat : Int))).setCell ⟨mb, 4, none⟩ (.int .i64 (wrap64 (wr + 1)))) mb { m with left := m.left, b := m.b.set i x, writes := m.writes + 1 } F (.slice (some ⟨g, 0, none⟩) m.b.length c) (wrap64 (wr + 1)) := by
        have := RMemAt.upd (m' := { m with left := m.left, b := m.b.set i x, writes := m.writes + 1 }) (wr' := wrap64 (wr + 1)) h2 ((Keep.refl (fun x => x = mb) _).setCell (p := ⟨mb, 4, none⟩) (fun _ => rfl) (.int .i64 (wrap64 (wr + 1)))) (by simpa [rmemCells] using h2.blk.set_ 4 (.int .i64 (wrap64 (wr + 1)))) rfl h.left
        exact this
      have hk3 : Keep F w ((w.setCell ⟨g, i, none⟩ (.int .u8 (x.toNat : Int))).setCell ⟨mb, 4, none⟩ (.int .i64 (wrap64 (wr + 1)))) :=
        ((Keep.refl F w).setCell (p := ⟨g, i, none⟩) (fun _ => hFg) _).setCell (p := ⟨mb, 4, none⟩) (fun _ => h.fb) _
      rw [ha] at hc
      go_enter Tryz.func102, Tryz.ntmps102
      go_wp2_with fail
      go_ret
      exact ⟨rfl, ⟨_, _, h3⟩, hk3, by simp [World.setCell]⟩
end Go.Proofs.YtlldgfejcjnpkaaGreat
/- What both ends of the reference need. -/
namespace Go.Proofs.YtlldgfejcjnpkaaGreat
open Go.RowKit
set_option maxHeartbeats 10000000
set_option maxRecDepth 100000

section
variable {w : World} {vv : Value}
theorem RVal.ne {x : Option (List UInt8)} {g : Nat} {t : TypeId} {cs : Array Value} (h : RVal w vv x) (hg : Blk w g t cs) (hne : 5 ≠ t) : vv.ownBlock ≠ some g := by
  cases x with
  | none => rw [show vv = .slice none 0 0 from h]; simp [Value.ownBlock]
  | some l => exact own_ne h hg hne
theorem own_obj {base size n : Nat} {e : TypeId} {v : Value} {xs : List Value} {g : Nat} (h : w.ownsRow base e size v n xs) (hg : v.ownBlock = some g) : ∃ cs, Blk w g e cs := by
  rcases h.2 with ⟨rfl, _⟩ | ⟨g', cap, cur, rfl, _, hh, _⟩
  · simp [Value.ownBlock] at hg
  · have : g' = g := by simpa [Value.ownBlock] using hg
    subst this
    exact ⟨cur, hh⟩
end
theorem r13flags_any (b o : Nat) (t : TypeId) (pre post : List Value) (N : Nat) (V : ValveM) (vv : Value) (hold : Bool) (w : World) (hb : Blk w b t (seg pre (rvCs N V vv) post)) (ho : pre.length = o) (hv : RVal w vv V.value) (hN : N ≤ 8) (hval : ∀ l, V.value = some l → l.length = N) :
    Calls Tryz.prog 115 #[.pointer (some ⟨b, o, none⟩), .bool hold] w fun e w' => e = .returned (.int .i64 (flagsM V hold)) ∧ Below w.heap.size w w' := by
  obtain ⟨fl, Hfl⟩ : ∃ x, Hid (x = flagsM V hold) := ⟨_, Lib.hid rfl⟩
  rw [← Hfl.out]
  have hout := rvOutput_any b o t pre post V vv w N hb ho hv hN hval
  have hreq := fun w' hb' => rvRequest_any b o t pre post N V vv w' hb' ho
  clear hv hval
  cases hon : V.on <;> cases hrq : V.request <;> cases hlt : (V.latched != 0) <;> cases hho : hold
  all_goals
    rw [hon] at hout
    rw [hrq] at hreq
    go_enter Tryz.func115, Tryz.ntmps115
    go_wp2_with fail
    refine hout.mono ?_
    rintro e w1 ⟨x, rfl, hownx, hb1⟩
    obtain ⟨Ax, cx, rfl⟩ := own_slice hownx
    have hB1 := hb.below hb1 hb.lt
    obtain ⟨c0, c1, c2, c3, c4, c5, c6⟩ := rv_cells hB1 ho
    clear hownx hout
    go_wp2_with fail
    refine (hreq w1 hB1).mono ?_
    rintro e w2 ⟨rfl, rfl⟩
    clear c0 c1 c2 c3 c5 c6 hreq
    go_wp2_with fail
    go_ret
    refine ⟨?_, hb1⟩
    have e1 : (V.latched = 0) = (¬ (V.latched != 0) = true) := by simp
    rw [Hfl.out]
    unfold flagsM
    simp only [hon, hrq, hho, e1, hlt]
    rfl
theorem ack_val (V : ValveM) : V.ack.value = V.value := by
  unfold ValveM.ack
  split <;> rfl
theorem run_val (V : ValveM) (on : Bool) (vv : Value) : ((if V.running = on then vv else .slice none 0 0) = vv ∧ (V.run on).value = V.value) ∨ ((if V.running = on then vv else .slice none 0 0) = .slice none 0 0 ∧ (V.run on).value = none) := by
  unfold ValveM.run
  by_cases h : V.running = on
  · left; rw [if_pos h, if_pos h]; exact ⟨rfl, rfl⟩
  · right; rw [if_neg h, if_neg h]; exact ⟨rfl, rfl⟩
theorem r13same_any (e : EndM) (A1 A2 : Option Addr) (c1 c2 B : Nat) (w : World) (h1 : Reads w B 1 A1 e.out.length (u8c e.out)) (h2 : Reads w B 1 A2 e.out.length (u8c e.out)) (hB : B ≤ w.heap.size) :
    Calls Tryz.prog 36 #[endVal e (.slice A1 e.out.length c1), endVal e (.slice A2 e.out.length c2)] w fun r w' => r = .returned (.bool true) ∧ Below w.heap.size w w' := by
  have k1 : ∀ o1 o2, (convert 22 9 (.slice A1 e.out.length c1)).run Tryz.prog ((w.alloc o1).alloc o2) = .ok (.string ⟨e.out.toArray⟩) ((w.alloc o1).alloc o2) := fun o1 o2 => conv_reads ((h1.alloc hB o1).alloc (by simp; omega) o2)
  have k2 : ∀ o1 o2, (convert 22 9 (.slice A2 e.out.length c2)).run Tryz.prog ((w.alloc o1).alloc o2) = .ok (.string ⟨e.out.toArray⟩) ((w.alloc o1).alloc o2) := fun o1 o2 => conv_reads ((h2.alloc hB o1).alloc (by simp; omega) o2)
  obtain ⟨state, session, number, sent, since, latched, request, on, out⟩ := e
  unfold endVal
  simp only at *
  have hb : ∀ o1 o2, Below w.heap.size w ((w.alloc o1).alloc o2) := fun o1 o2 => ((Below.refl _ _).alloc (Nat.le_refl _) o1).alloc (by simp) o2
  have q1 : ∀ W, (binOp .eql 4 (.bool request) (.bool request)).run Tryz.prog W = .ok (.bool true) W := by cases request <;> exact fun _ => by kernel_rfl
  have q2 : ∀ W, (binOp .eql 4 (.bool on) (.bool on)).run Tryz.prog W = .ok (.bool true) W := by cases on <;> exact fun _ => by kernel_rfl
  clear h1 h2 hB
  go_enter Tryz.func36, Tryz.ntmps36
  go_wp2_with fail
  go_ret
  exact ⟨by simp, hb _ _⟩
theorem lawSmall_any (w : World) : Calls Tryz.prog 13 #[] w fun e w' => e = .returned (parVal smallM) ∧ Below w.heap.size w w' := by
  go_enter Tryz.func13, Tryz.ntmps13
  go_wp2_with fail
  refine bodyPost_ret (v := parVal smallM) (by simp [results, Tryz.results13, go_sem, parVal, smallM]) rfl ⟨rfl, ?_⟩
  exact (Below.refl _ _).alloc (Nat.le_refl _) _
end Go.Proofs.YtlldgfejcjnpkaaGreat
/- What always holds of a device: plain. -/
namespace Go.Proofs.YtlldgfejcjnpkaaGreat

theorem writeSlot_len (m : MemM) (k : Nat) (x : Int) : (m.writeSlot k x).1.b.length = m.b.length := by
  have key : ∀ (l : List (Nat × UInt8)) (m : MemM), (m.writeAll l).1.b.length = m.b.length := by
    intro l
    induction l with
    | nil => intro m; rfl
    | cons x r ih =>
      intro m
      have hw : (m.write x.1 x.2).1.b.length = m.b.length := by
        rcases m.write_b x.1 x.2 with e | e <;> rw [e]
        exact List.length_set
      unfold MemM.writeAll
      split
      · exact hw
      · rw [ih, hw]
  exact key _ _
theorem mend_len (m : MemM) (k : Nat) : (m.mend k).1.b.length = m.b.length := by
  unfold MemM.mend
  split
  · exact writeSlot_len _ _ _
  split
  · rcases m.write_b (5 * k) 0 with e | e <;> rw [e]
    exact List.length_set
  · rfl
theorem openM_len (m : MemM) (mx : Int) : (openM m mx).1.b.length = m.b.length := by
  unfold openM
  split
  · rfl
  split
  · rfl
  simp only
  split
  · exact mend_len m 0
  split
  · exact (mend_len _ 1).trans (mend_len m 0)
  · exact (mend_len _ 1).trans (mend_len m 0)
theorem top_range (m : MemM) : 0 ≤ m.top ∧ m.top < 4294967296 := by
  have h0 := m.word_range 0
  have h1 := m.word_range 1
  unfold MemM.top
  simp only
  split <;> split <;> omega
/-- What is opened, where it is. -/
theorem openM_some {m : MemM} {mx : Int} {k : CellM} (h : (openM m mx).2.1 = some k) : k.max = mx ∧ (0 ≤ k.value ∧ k.value < 4294967296) ∧ (openM m mx).2.2 = 0 := by
  have ht := top_range m
  unfold openM at h ⊢
  split at h
  · cases h
  rename_i h1
  rw [if_neg h1]
  split at h
  · cases h
  rename_i h2
  rw [if_neg h2]
  simp only at h ⊢
  split at h
  · cases h
  rename_i h3
  rw [if_neg h3]
  split at h
  · cases h
  rename_i h4
  rw [if_neg h4]
  simp only [Option.some.injEq] at h
  subst h
  exact ⟨rfl, ht, rfl⟩
theorem openM_none {m : MemM} {mx : Int} (h : (openM m mx).2.1 = none) : (openM m mx).2.2 ≠ 0 := by
  unfold openM at h ⊢
  split
  · simp
  rename_i h1
  rw [if_neg h1] at h
  split
  · simp
  rename_i h2
  rw [if_neg h2] at h
  simp only at h ⊢
  split
  · rename_i h3; exact h3
  rename_i h3
  rw [if_neg h3] at h
  split
  · rename_i h4; exact h4
  rename_i h4
  rw [if_neg h4] at h
  simp at h
theorem next_form (c : CellM) (m : MemM) : c.next m = (c, m, 0, 70) ∨ (c.max ≤ c.value ∧ c.next m = (c, m, 0, 80)) ∨ (c.value < c.max ∧ ∃ k, c.next m = ({ c with dead := true }, (m.writeSlot k (c.value + 1)).1, 0, 70) ∨ c.next m = ({ c with value := c.value + 1 }, (m.writeSlot k (c.value + 1)).1, c.value + 1, 0)) := by
  unfold CellM.next
  by_cases h0 : (c.dead || m.off) = true
  · rw [if_pos h0]; exact .inl rfl
  · rw [if_neg h0]
    by_cases h1 : c.max ≤ c.value
    · rw [if_pos h1]; exact .inr (.inl ⟨h1, rfl⟩)
    · rw [if_neg h1]
      refine .inr (.inr ⟨by omega, (if m.holds 0 && (!m.holds 1 || decide (m.word 1 < m.word 0)) then 1 else 0), ?_⟩)
      generalize (if m.holds 0 && (!m.holds 1 || decide (m.word 1 < m.word 0)) then 1 else 0) = k
      simp only
      by_cases h2 : (m.writeSlot k (c.value + 1)).2 ≠ 0
      · rw [if_pos h2]; exact .inl rfl
      · rw [if_neg h2]; exact .inr rfl
theorem next_len (c : CellM) (m : MemM) : (c.next m).2.1.b.length = m.b.length := by
  rcases next_form c m with e | ⟨_, e⟩ | ⟨_, k, e | e⟩ <;> rw [e]
  · exact writeSlot_len _ _ _
  · exact writeSlot_len _ _ _
theorem next_cell (c : CellM) (m : MemM) (hv : 0 ≤ c.value) (hm : c.max < 4294967296) (hv2 : c.value < 4294967296) :
    (c.next m).1.max = c.max ∧ (0 ≤ (c.next m).1.value ∧ (c.next m).1.value < 4294967296) ∧ (0 ≤ (c.next m).2.2.1 ∧ (c.next m).2.2.1 < 4294967296) := by
  rcases next_form c m with e | ⟨_, e⟩ | ⟨_, k, e | e⟩ <;> rw [e] <;> dsimp only <;> omega
theorem next_err (c : CellM) (m : MemM) : (c.next m).2.2.2 = 0 ∨ (c.next m).2.2.2 = 70 ∨ (c.next m).2.2.2 = 80 := by
  rcases next_form c m with e | ⟨_, e⟩ | ⟨_, k, e | e⟩ <;> rw [e] <;> simp
/-- What always holds of a device. -/
structure DevM.Inv (m : DevM) : Prop where
  pok : m.p.Ok
  plaw : m.p.lawful = true
  mx : 0 ≤ m.max ∧ m.max < 4294967296
  session : 0 ≤ m.session ∧ m.session < 4294967296
  number : 0 ≤ m.number ∧ m.number < 4294967296
  sent : 0 ≤ m.sent ∧ m.sent ≤ m.number
  state : 1 ≤ m.state ∧ m.state ≤ 6
  odd : 0 ≤ m.odd ∧ m.odd ≤ 3
  since : 0 ≤ m.since ∧ m.since ≤ m.p.watch
  value : (m.value.length : Int) = m.p.inn
  vval : ∀ b, m.valve.value = some b → (b.length : Int) = m.p.out
  cmax : m.cell.max = m.max
  cval : 0 ≤ m.cell.value ∧ m.cell.value < 4294967296
  mem : 10 ≤ m.m.b.length
  fr : m.valve.fresh = true → m.valve.latched ≠ 0
namespace DevM.Inv
variable {m : DevM}
theorem p8 (h : m.Inv) : (1 ≤ m.p.out ∧ m.p.out ≤ 8) ∧ (1 ≤ m.p.inn ∧ m.p.inn ≤ 8) ∧ (1 ≤ m.p.watch ∧ m.p.watch ≤ 1048576) ∧ 2 ≤ m.p.count ∧ m.p.count < 4294967296 := by
  have hl := h.plaw
  have := h.pok.count
  simp [ParM.lawful] at hl
  omega
theorem trip (h : m.Inv) (code : Int) : (m.trip code).Inv := { h with vval := valve_trip_val h.vval, fr := fr_trip h.fr }
theorem alive (h : m.Inv) : m.alive.Inv := { h with odd := by simp [DevM.alive], since := by have := h.p8; simp only [DevM.alive]; omega, fr := fr_come _ }
theorem run (h : m.Inv) (on : Bool) : (m.run on).Inv := { h with vval := valve_run_val h.vval, fr := fr_run h.fr }
theorem toSt (h : m.Inv) (s : Int) (hs : 1 ≤ s ∧ s ≤ 6) : ({ m with state := s } : DevM).Inv := { h with state := hs }
theorem leave (h : m.Inv) (s : Int) (hs : 1 ≤ s ∧ s ≤ 6) : (m.leave s).Inv :=
  { h with state := hs, session := by simp [DevM.leave], number := by simp [DevM.leave], sent := by simp [DevM.leave], odd := by simp [DevM.leave], vval := valve_run_val h.vval, fr := fr_run h.fr }
theorem log (h : m.Inv) (l : List Rec) : ({ m with log := l } : DevM).Inv := { h with }
theorem made {p : ParM} {M : MemM} {mx : Int} {C : CellM} {L : List Rec} {s : Int} (hs : 1 ≤ s ∧ s ≤ 6) (hp : p.Ok) (hl : p.lawful = true) (hmx : 0 ≤ mx ∧ mx < 4294967296) (hc : C.max = mx) (hv : 0 ≤ C.value ∧ C.value < 4294967296) (hm : 10 ≤ M.b.length) :
    ({ p := p, m := M, max := mx, cell := C, log := L, state := s, value := List.replicate p.inn.toNat 0 } : DevM).Inv := by
  have hl' := hl
  simp [ParM.lawful] at hl'
  exact { pok := hp, plaw := hl, mx := hmx, session := by simp, number := by simp, sent := by simp, state := hs, odd := by simp, since := by simp; omega, value := by simp; omega, vval := fun b hb => (by cases hb), cmax := hc, cval := hv, mem := hm, fr := fun h => (by cases h) }
theorem life (h : m.Inv) (s : Int) (hs : 1 ≤ s ∧ s ≤ 6) : (m.life s).Inv := made hs h.pok h.plaw h.mx h.cmax h.cval h.mem
theorem strange (h : m.Inv) : m.strange.1.Inv := by
  have ho := h.odd
  unfold DevM.strange
  split
  · exact h
  · simp only
    split
    · exact { h with odd := by simp only; omega }
    · split
      · have h1 := (h.trip 131).leave 1 (by omega)
        exact h1
      · have h1 := h.leave 1 (by omega)
        exact h1
theorem odds (h : m.Inv) (e : Int) : (m.odds e).1.Inv := h.strange
theorem begin_ (h : m.Inv) : m.begin_.1.Inv := by
  have hc := next_cell m.cell m.m h.cval.1 (by rw [h.cmax]; exact h.mx.2) h.cval.2
  have hl := next_len m.cell m.m
  have hcm := h.cmax
  have hme := h.mem
  unfold DevM.begin_
  generalize m.cell.next m.m = r at *
  obtain ⟨c, m', s, e⟩ := r
  simp only at *
  have hg : ({ m with cell := c, m := m' } : DevM).Inv := { h with cmax := by simp only; omega, cval := hc.2.1, mem := by simp only; omega }
  split
  · exact (hg.trip 80).leave 5 (by omega)
  · split
    · exact hg.life 6 (by omega)
    · exact { hg.leave 2 (by omega) with session := hc.2.2 }
theorem wish (h : m.Inv) : m.wish.1.Inv := by
  unfold DevM.wish
  split
  · simp only
    split
    · exact h.strange.begin_
    · split
      · exact h.strange
      · exact h.strange
  · exact h.begin_
theorem take (h : m.Inv) {u : UnitM} (hn : 0 ≤ u.number ∧ u.number < 4294967296) : (m.take u).1.Inv := by
  have hp := h.p8
  have hs := h.sent
  unfold DevM.take
  split
  · split
    · exact h.wish
    · exact h.odds _
  split
  · split
    · exact h.odds _
    · simp only
      split
      · exact (h.toSt 3 (by omega)).alive
      · exact h
  split
  · simp only
    split
    · exact ((h.toSt 4 (by omega)).run true).alive
    · exact h
  split
  · rename_i hc
    have h1 : ({ m with number := u.number } : DevM).Inv := { h with number := hn, sent := by simp only; omega }
    have h2 := h1.alive
    refine { h2 with sent := ?_, vval := ?_, fr := fr_take (V := (DevM.alive _).valve.hold _) h2.fr }
    · show 0 ≤ m.sent + 1 ∧ m.sent + 1 ≤ u.number
      omega
    · intro b hb
      simp only [ValveM.take] at hb
      split at hb
      · simp only [Option.some.injEq] at hb
        subst hb
        exact hc.2.2.2.2.1
      · exact h2.vval b hb
  split
  · rename_i hc
    have h1 : ({ m with number := u.number } : DevM).Inv := { h with number := hn, sent := by simp only; omega }
    have h2 := h1.alive.trip 80
    have h3 : ({ (({ m with number := u.number } : DevM).alive).trip 80 with sent := m.p.count } : DevM).Inv := { h2 with sent := by show 0 ≤ m.p.count ∧ m.p.count ≤ u.number; omega }
    exact (h3.run false).toSt 5 (by omega)
  · exact h.odds _
theorem read (h : m.Inv) (l : List UInt8) : (m.read l).1.Inv := by
  have hd := decode_ok l
  unfold DevM.read
  simp only
  split
  · exact h
  split
  · exact h
  split
  · exact h
  · exact h.take hd.2.1
theorem receive (h : m.Inv) (l : List UInt8) : (m.receive l).1.Inv := by
  unfold DevM.receive
  split
  · exact h
  · simp only
    split
    · exact h.read l
    · exact (h.read l).log _
theorem write (h : m.Inv) (b : List UInt8) (hold : Bool) : (m.write b hold).1.Inv := by
  unfold DevM.write
  split
  · exact h
  split
  · exact h
  · rename_i hq
    exact { h with value := by simpa using hq }
theorem tick (h : m.Inv) (n : Int) : (m.tick n).1.Inv := by
  have hs := h.since
  unfold DevM.tick
  split
  · exact h
  split
  · exact h
  · have h1 : ({ m with since := (ticksM m.p.watch m.since n).1 } : DevM).Inv := by
      refine { h with since := ?_ }
      simp only
      unfold ticksM
      split
      · exact hs
      · split
        · simp only; omega
        · simp only; omega
    simp only
    split
    · exact h1.trip 100
    · exact h1
theorem ack (h : m.Inv) : m.ack.1.Inv := by
  unfold DevM.ack
  split
  · exact h
  split
  · refine { h with vval := ?_, fr := fr_ack h.fr }
    intro b hb
    unfold ValveM.ack at hb
    split at hb <;> exact h.vval b hb
  · exact h
theorem arm (h : m.Inv) (n : Int) : ({ m with m := (m.m.arm n).1 } : DevM).Inv := { h with mem := by show 10 ≤ (m.m.arm n).1.b.length; unfold MemM.arm; split <;> exact h.mem }
theorem reset (h : m.Inv) (n : Int) : (m.reset n).1.Inv := by
  unfold DevM.reset
  split
  · exact h
  · have hb : (if 0 < n then (m.m.on.arm (n - 1)).1 else m.m.on).b.length = m.m.b.length := by
      split
      · unfold MemM.arm; split <;> rfl
      · rfl
    have hl := openM_len (if 0 < n then (m.m.on.arm (n - 1)).1 else m.m.on) m.max
    have ho := fun k h => openM_some (m := (if 0 < n then (m.m.on.arm (n - 1)).1 else m.m.on)) (mx := m.max) (k := k) h
    have hme := h.mem
    simp only
    generalize openM (if 0 < n then (m.m.on.arm (n - 1)).1 else m.m.on) m.max = r at *
    obtain ⟨m', k, e⟩ := r
    simp only at *
    cases k with
    | none => exact { h.life 6 (by omega) with mem := by simp only; omega }
    | some k =>
      obtain ⟨h1, h2, h3⟩ := ho k rfl
      exact { h.life 1 (by omega) with cmax := h1, cval := h2, mem := by simp only; omega }
end DevM.Inv
theorem DevM.inv_new {p : ParM} {m m' : MemM} {mx e : Int} {d : DevM} (hp : p.Ok) (hmx : 0 ≤ mx ∧ mx < 4294967296) (h : DevM.new p m mx = (m', some d, e)) : d.Inv ∧ e = 0 := by
  unfold DevM.new at h
  split at h
  · simp at h
  rename_i hl
  simp only [Bool.not_eq_true, Bool.not_eq_false'] at hl
  have hln := openM_len m mx
  have ho := fun k h => openM_some (m := m) (mx := mx) (k := k) h
  have h10 : (∃ k, (openM m mx).2.1 = some k) → 10 ≤ m.b.length := by
    rintro ⟨k, hk⟩
    unfold openM at hk
    split at hk
    · cases hk
    · omega
  generalize openM m mx = r at *
  obtain ⟨m1, k, e1⟩ := r
  simp only at *
  cases k with
  | none => simp at h
  | some k =>
    simp only [Prod.mk.injEq, Option.some.injEq] at h
    obtain ⟨rfl, rfl, rfl⟩ := h
    obtain ⟨h1, h2, h3⟩ := ho k rfl
    exact ⟨.made (by omega) hp hl hmx h1 h2 (by rw [hln]; exact h10 ⟨k, rfl⟩), rfl⟩
end Go.Proofs.YtlldgfejcjnpkaaGreat
