/- The base of the laws, part 9: contracts and plain lemmas, no statement. -/
import Derived.Test.YtlldgfejcjnpkaaGreatBase2
import Derived.Test.YtlldgfejcjnpkaaGreatBase3
import Derived.Test.YtlldgfejcjnpkaaGreatBase6
import Derived.Deep.OwnRows
set_option linter.unusedVariables false
/- The reference's units (parapetref04): Word, Host, Device, data, Lawful. -/
namespace Go.Proofs.YtlldgfejcjnpkaaGreat
open Go.RowKit
set_option maxHeartbeats 4000000
set_option maxRecDepth 100000

theorem r4word_any (ad : Addr) (n c : Nat) (b0 b1 b2 b3 : UInt8) (w : World) (hn : 4 ≤ n) (h0 : w.cell? (ad.add 0) = some (.int .u8 (b0.toNat : Int))) (h1 : w.cell? (ad.add 1) = some (.int .u8 (b1.toNat : Int)))
    (h2 : w.cell? (ad.add 2) = some (.int .u8 (b2.toNat : Int))) (h3 : w.cell? (ad.add 3) = some (.int .u8 (b3.toNat : Int))) :
    Calls Tryz.prog 72 #[.slice (some ad) n c] w fun e w' => e = .returned (u32v (ofWord b0 b1 b2 b3)) ∧ ∃ k, w' = w.drewN k := by
  have g0 : (0 : Int) < n := by omega
  have g1 : (1 : Int) < n := by omega
  have g2 : (2 : Int) < n := by omega
  have g3 : (3 : Int) < n := by omega
  rw [show ad.add 0 = ad from rfl] at h0
  rw [show ad.add 1 = ⟨ad.block, ad.off + 1, none⟩ from rfl] at h1
  rw [show ad.add 2 = ⟨ad.block, ad.off + 2, none⟩ from rfl] at h2
  rw [show ad.add 3 = ⟨ad.block, ad.off + 3, none⟩ from rfl] at h3
  go_enter Tryz.func72, Tryz.ntmps72
  go_wp2_with fail
  go_big_quiet (fail)
  go_wp2_with fail
  go_ret
  refine ⟨?_, _, rfl⟩
  exact congrArg (fun x => Ending.returned (Value.int .u32 x)) (get_word b0 b1 b2 b3)
theorem r4host_any (k : Int) (w : World) : Calls Tryz.prog 57 #[.int .i64 k] w fun e w' => e = .returned (.bool (isHost k)) ∧ w' = w := by
  by_cases h1 : 1 ≤ k
  · go_enter Tryz.func57, Tryz.ntmps57
    go_wp2_with fail
    go_ret
    exact ⟨by simp [isHost, h1], rfl⟩
  · go_enter Tryz.func57, Tryz.ntmps57
    go_wp2_with fail
    go_ret
    exact ⟨by simp [isHost]; omega, rfl⟩
theorem r4device_any (k : Int) (w : World) : Calls Tryz.prog 123 #[.int .i64 k] w fun e w' => e = .returned (.bool (isDev k)) ∧ w' = w := by
  by_cases h1 : 17 ≤ k
  · go_enter Tryz.func123, Tryz.ntmps123
    go_wp2_with fail
    go_ret
    exact ⟨by simp [isDev, h1], rfl⟩
  · go_enter Tryz.func123, Tryz.ntmps123
    go_wp2_with fail
    go_ret
    exact ⟨by simp [isDev]; omega, rfl⟩
theorem r4data_any (k : Int) (n : Nat) (w : World) : Calls Tryz.prog 124 #[.int .i64 k, .int .i64 (n : Int)] w fun e w' => e = .returned (.bool (dataOk k n)) ∧ w' = w := by
  have e4 : ((n : Int) == 4) = (n == 4) := by rw [Bool.eq_iff_iff]; simp; omega
  have e0 : ((n : Int) == 0) = (n == 0) := by rw [Bool.eq_iff_iff]; simp
  by_cases h1 : k = 1 ∨ k = 2 ∨ k = 17
  · have e : dataOk k n = (n == 4) := by unfold dataOk; rw [if_pos h1]
    rw [e, ← e4]
    clear e e4 e0
    rcases h1 with rfl | rfl | rfl
    all_goals
      go_enter Tryz.func124, Tryz.ntmps124
      go_wp2_with fail
      go_ret
      exact ⟨rfl, rfl⟩
  by_cases h2 : k = 4 ∨ k = 20
  · have e : dataOk k n = decide (1 ≤ n ∧ n ≤ 8) := by unfold dataOk; rw [if_neg h1, if_pos h2]
    rw [e]
    clear e e4 e0
    rcases h2 with rfl | rfl
    all_goals
      by_cases h3 : 1 ≤ (n : Int)
      · go_enter Tryz.func124, Tryz.ntmps124
        go_wp2_with fail
        go_ret
        refine ⟨?_, rfl⟩
        have h4 : 1 ≤ n := by omega
        refine congrArg (fun x => Ending.returned (Value.bool x)) ?_
        rw [Bool.eq_iff_iff]
        simp [h4]
        try omega
      · go_enter Tryz.func124, Tryz.ntmps124
        go_wp2_with fail
        go_ret
        refine ⟨?_, rfl⟩
        have h4 : ¬ 1 ≤ n := by omega
        simp [h4]
  · have e : dataOk k n = (n == 0) := by unfold dataOk; rw [if_neg h1, if_neg h2]
    rw [e, ← e0]
    simp only [not_or] at h1 h2
    have g1 : (k == 1) = false := by simpa using h1.1
    have g2 : (k == 2) = false := by simpa using h1.2.1
    have g3 : (k == 17) = false := by simpa using h1.2.2
    have g4 : (k == 4) = false := by simpa using h2.1
    have g5 : (k == 20) = false := by simpa using h2.2
    clear e e4 e0 h1 h2
    go_enter Tryz.func124, Tryz.ntmps124
    go_wp2_with fail
    go_ret
    exact ⟨rfl, rfl⟩
theorem r4lawful_any (u : UnitM) (A : Option Addr) (c : Nat) (w : World) (hs : 0 ≤ u.session) (hn : 0 ≤ u.number) :
    Calls Tryz.prog 73 #[unitVal u (.slice A u.data.length c)] w fun e w' => e = .returned (.int .i64 u.lawful) ∧ Below w.heap.size w w' := by
  obtain ⟨kind, code, session, number, flags, data⟩ := u
  unfold unitVal
  simp only at *
  have hb : ∀ cs t, Below w.heap.size w (w.alloc (.cells cs t)) := fun cs t => (Below.refl _ _).alloc (Nat.le_refl _) _
  have hh := r4host_any kind
  have hd := r4device_any kind
  have hda := r4data_any kind data.length
  obtain ⟨law, Hlaw⟩ : ∃ x, Hid (x = (UnitM.mk kind code session number flags data).lawful) := ⟨_, Lib.hid rfl⟩
  rw [← Hlaw.out]
  by_cases hk : kind = 1 ∨ kind = 2 ∨ kind = 17 ∨ kind = 3 ∨ kind = 18 ∨ kind = 19 ∨ kind = 4 ∨ kind = 20 ∨ kind = 5 ∨ kind = 21 ∨ kind = 22
  · rcases hk with rfl | rfl | rfl | rfl | rfl | rfl | rfl | rfl | rfl | rfl | rfl
    all_goals
      go_enter Tryz.func73, Tryz.ntmps73
      go_wp2_with (first
        | (go_at_call 57; refine (hh _).mono ?_; rintro e w1 ⟨rfl, rfl⟩)
        | (go_at_call 123; refine (hd _).mono ?_; rintro e w1 ⟨rfl, rfl⟩)
        | (go_at_call 124; refine (hda _).mono ?_; rintro e w1 ⟨rfl, rfl⟩))
      all_goals
        go_ret
        refine ⟨?_, hb _ _⟩
        clear hh hd hda hb
        rw [Hlaw.out]
        clear Hlaw
        refine congrArg (fun x => Ending.returned (Value.int .i64 x)) ?_
        simp_all [UnitM.lawful, isHost, isDev, sessOk, numOk, flagOk]
        try omega
  · have e : (UnitM.mk kind code session number flags data).lawful = 43 := by
      have h1 : isHost kind = false := by simp [isHost]; omega
      have h2 : isDev kind = false := by simp [isDev]; omega
      simp [UnitM.lawful, h1, h2]
    have h1 : isHost kind = false := by simp [isHost]; omega
    have h2 : isDev kind = false := by simp [isDev]; omega
    rw [h1] at hh
    rw [h2] at hd
    rw [e] at Hlaw
    have hl := Hlaw.out
    subst hl
    simp only [not_or] at hk
    obtain ⟨n1, n2, n3, n4, n5, n6, n7, n8, n9, n10, n11⟩ := hk
    have g4 : (kind == 4) = false := by simpa using n7
    have g20 : (kind == 20) = false := by simpa using n8
    have g5 : (kind == 5) = false := by simpa using n9
    have g21 : (kind == 21) = false := by simpa using n10
    clear n1 n2 n3 n4 n5 n6 n7 n8 n9 n10 n11 e hda Hlaw
    go_enter Tryz.func73, Tryz.ntmps73
    go_wp2_with (first
      | (go_at_call 57; refine (hh _).mono ?_; rintro e w1 ⟨rfl, rfl⟩)
      | (go_at_call 123; refine (hd _).mono ?_; rintro e w1 ⟨rfl, rfl⟩))
    go_ret
    exact ⟨rfl, hb _ _⟩
end Go.Proofs.YtlldgfejcjnpkaaGreat
/- passive's valve by its contracts. -/
namespace Go.Proofs.YtlldgfejcjnpkaaGreat
open Go.RowKit
set_option maxHeartbeats 4000000
set_option maxRecDepth 100000

theorem GateIs.far {w : World} {b o : Nat} {code : Int} (h : GateIs w b o code) {p : Addr} (hb : b ≠ p.block) (ho : o ≠ p.block) (u : Value) : GateIs (w.setCell p u) b o code := by
  obtain ⟨⟨n, h1⟩, ⟨s, h2⟩⟩ := h
  exact ⟨⟨n, h1.far hb u⟩, ⟨s, h2.far ho u⟩⟩
/-- What the valve's value cell holds. -/
def ValIs (w : World) (val : Value) (x : Option (List UInt8)) : Prop :=
  match x with
  | none => val = .slice none 0 0
  | some b => w.ownsRow 0 5 1 val b.length (u8c b) ∧ ∃ g, val.ownBlock = some g
/-- A valve at block v, its gate gb, its Once o, its value val. -/
structure ValveAt (w : World) (v : Nat) (V : ValveM) (n : Int) (F : Nat → Prop) (gb o : Nat) (val : Value) : Prop where
  blk : Blk w v 216 #[.int .i64 n, .pointer (some ⟨gb, 0, none⟩), .bool V.running, .bool V.fresh, .bool V.held, val]
  gate : GateIs w gb o V.latched
  value : ValIs w val V.value
  fv : F v
  fg : F gb
  fo : F o
  fx : ∀ x, val.ownBlock = some x → F x
def ValveIs (w : World) (v : Nat) (V : ValveM) (n : Int) (F : Nat → Prop) : Prop := ∃ gb o val, ValveAt w v V n F gb o val
/-- A footprint and what was made. -/
def grow (F : Nat → Prop) (w w' : World) (x : Nat) : Prop := F x ∨ (w.heap.size ≤ x ∧ x < w'.heap.size)
section
variable {w w' : World} {v gb o : Nat} {V : ValveM} {n : Int} {F F' S : Nat → Prop} {val : Value}
theorem ValveAt.ne (h : ValveAt w v V n F gb o val) : v ≠ gb ∧ v ≠ o := by
  obtain ⟨⟨m, h1⟩, ⟨s, h2⟩⟩ := h.gate
  exact ⟨h.blk.ne_ h1 (by decide), h.blk.ne_ h2 (by decide)⟩
theorem ValIs.keep {x : Option (List UInt8)} (h : ValIs w val x) (hk : Keep S w w') (hx : ∀ g, val.ownBlock = some g → ¬ S g) : ValIs w' val x := by
  cases x with
  | none => exact h
  | some b => exact ⟨ownsRow_keep h.1 hk hx, h.2⟩
theorem ValveAt.keep (h : ValveAt w v V n F gb o val) (hk : Keep S w w') (hS : ∀ x, F x → ¬ S x) (hF : ∀ x, F x → F' x) : ValveAt w' v V n F' gb o val where
  blk := h.blk.keep hk (hS _ h.fv)
  gate := h.gate.keep hk (hS _ h.fg) (hS _ h.fo)
  value := h.value.keep hk (fun g hg => hS _ (h.fx g hg))
  fv := hF _ h.fv
  fg := hF _ h.fg
  fo := hF _ h.fo
  fx := fun x hx => hF _ (h.fx x hx)
theorem ValveIs.keep (h : ValveIs w v V n F) (hk : Keep S w w') (hS : ∀ x, F x → ¬ S x) (hF : ∀ x, F x → F' x) : ValveIs w' v V n F' := by
  obtain ⟨gb, o, val, h⟩ := h
  exact ⟨gb, o, val, h.keep hk hS hF⟩
theorem ValveAt.val_ne (h : ValveAt w v V n F gb o val) : val.ownBlock ≠ some v ∧ val.ownBlock ≠ some gb ∧ val.ownBlock ≠ some o := by
  have hv := h.value
  obtain ⟨⟨m, h1⟩, ⟨s, h2⟩⟩ := h.gate
  unfold ValIs at hv
  split at hv
  · subst hv
    simp [Value.ownBlock]
  · exact ⟨own_ne hv.1 h.blk (by decide), own_ne hv.1 h1 (by decide), own_ne hv.1 h2 (by decide)⟩
end
/-- Latched, Code. -/
theorem valveLatched_any (v : Nat) (V : ValveM) (n : Int) (F : Nat → Prop) (w : World) (h : ValveIs w v V n F) : Calls Tryz.prog 62 #[.pointer (some ⟨v, 0, none⟩)] w fun e w' => e = .returned (.int .i64 V.latched) ∧ w' = w := by
  obtain ⟨gb, o, val, h⟩ := h
  have hc := h.blk.cell
  go_enter Tryz.func62, Tryz.ntmps62
  go_wp2_with fail
  refine (gateCode_any gb o _ _ h.gate).mono ?_
  rintro e w1 ⟨rfl, rfl⟩
  go_wp2_with fail
  go_ret
  exact ⟨rfl, rfl⟩
theorem valveRequest_any (v : Nat) (V : ValveM) (n : Int) (F : Nat → Prop) (w : World) (h : ValveIs w v V n F) : Calls Tryz.prog 63 #[.pointer (some ⟨v, 0, none⟩)] w fun e w' => e = .returned (.bool V.request) ∧ w' = w := by
  obtain ⟨gb, o, val, h⟩ := h
  have hc := h.blk.cell
  have hg := h.gate
  obtain ⟨running, held, fresh, latched, value⟩ := V
  simp only at hc hg
  clear h
  cases running with
  | false =>
    go_enter Tryz.func63, Tryz.ntmps63
    go_wp2_with fail
    go_ret
    exact ⟨rfl, rfl⟩
  | true =>
    cases fresh with
    | false =>
      go_enter Tryz.func63, Tryz.ntmps63
      go_wp2_with fail
      go_ret
      exact ⟨rfl, rfl⟩
    | true =>
      go_enter Tryz.func63, Tryz.ntmps63
      go_wp2_with fail
      refine (gateCode_any gb o _ _ hg).mono ?_
      rintro e w1 ⟨rfl, rfl⟩
      go_wp2_with fail
      go_ret
      exact ⟨rfl, rfl⟩
theorem valveRun_any (v : Nat) (V : ValveM) (n : Int) (F : Nat → Prop) (on : Bool) (w : World) (h : ValveIs w v V n F) : Calls Tryz.prog 189 #[.pointer (some ⟨v, 0, none⟩), .bool on] w fun e w' => e = .returned (.tuple #[]) ∧ ValveIs w' v (V.run on) n F ∧ Keep F w w' ∧ w'.heap.size = w.heap.size := by
  obtain ⟨gb, o, val, h⟩ := h
  have hc := h.blk.cell
  have hf := h.blk.frozen
  by_cases he : V.running = on
  · have e1 : V.run on = V := by unfold ValveM.run; rw [if_pos he]
    rw [e1]
    have hq : ∀ W, (binOp .neq 4 (.bool V.running) (.bool on)).run Tryz.prog W = .ok (.bool false) W := by
      rw [he]
      cases on <;> exact fun _ => by kernel_rfl
    go_enter Tryz.func189, Tryz.ntmps189
    go_wp2_with fail
    go_end0
    exact ⟨rfl, ⟨gb, o, val, h⟩, Keep.refl _ _, rfl⟩
  · have e1 : V.run on = { V with running := on, held := false, value := none } := by unfold ValveM.run; rw [if_neg he]
    rw [e1]
    have hq : ∀ W, (binOp .neq 4 (.bool V.running) (.bool on)).run Tryz.prog W = .ok (.bool true) W := by
      cases hr : V.running <;> cases on <;> first | exact absurd hr he | exact fun _ => by kernel_rfl
    have hne := h.ne
    have hb := h.blk
    have hg := h.gate
    have hfv := h.fv
    have hfg := h.fg
    have hfo := h.fo
    clear h e1
    generalize V.running = ru at *
    generalize V.fresh = fr at *
    generalize V.held = he2 at *
    clear he
    go_enter Tryz.func189, Tryz.ntmps189
    go_wp2_with fail
    go_end0
    refine ⟨rfl, ⟨gb, o, .slice none 0 0, ⟨?_, ((hg.far (p := ⟨v, 2, none⟩) (fun h => hne.1 h.symm) (fun h => hne.2 h.symm) _).far (p := ⟨v, 5, none⟩) (fun h => hne.1 h.symm) (fun h => hne.2 h.symm) _).far (p := ⟨v, 4, none⟩) (fun h => hne.1 h.symm) (fun h => hne.2 h.symm) _, rfl, hfv, hfg, hfo, fun x hx => by simp [Value.ownBlock] at hx⟩⟩, (((Keep.refl _ w).setCell (p := ⟨v, 2, none⟩) (fun _ => hfv) _).setCell (p := ⟨v, 5, none⟩) (fun _ => hfv) _).setCell (p := ⟨v, 4, none⟩) (fun _ => hfv) _, by simp [World.setCell]⟩
    simpa using ((hb.set_ 2 (.bool on)).set_ 5 (.slice none 0 0)).set_ 4 (.bool false)
theorem valveFresh_any (v : Nat) (V : ValveM) (n : Int) (F : Nat → Prop) (w : World) (h : ValveIs w v V n F) : Calls Tryz.prog 216 #[.pointer (some ⟨v, 0, none⟩)] w fun e w' => e = .returned (.tuple #[]) ∧ ValveIs w' v V.come n F ∧ Keep F w w' ∧ w'.heap.size = w.heap.size := by
  obtain ⟨gb, o, val, h⟩ := h
  have hc := h.blk.cell
  have hf := h.blk.frozen
  have hne := h.ne
  have hvn := h.val_ne
  go_enter Tryz.func216, Tryz.ntmps216
  go_wp2_with fail
  refine (gateCode_any gb o _ _ h.gate).mono ?_
  rintro e w1 ⟨rfl, rfl⟩
  go_wp2_with fail
  go_end0
  have hk : Keep (fun x => x = v) w1 (w1.setCell ⟨v, 3, none⟩ (.bool (V.latched != 0))) := (Keep.refl (fun x => x = v) w1).setCell (p := ⟨v, 3, none⟩) (fun _ => rfl) _
  refine ⟨rfl, ⟨gb, o, val, ⟨?_, h.gate.far (p := ⟨v, 3, none⟩) (fun h => hne.1 h.symm) (fun h => hne.2 h.symm) _, h.value.keep hk (fun g hg e => hvn.1 (e ▸ hg)), h.fv, h.fg, h.fo, h.fx⟩⟩, (Keep.refl F w1).setCell (p := ⟨v, 3, none⟩) (fun _ => h.fv) _, by simp [World.setCell]⟩
  simpa [ValveM.come] using h.blk.set_ 3 (.bool (V.latched != 0))
theorem valveHold_any (v : Nat) (V : ValveM) (n : Int) (F : Nat → Prop) (on : Bool) (w : World) (h : ValveIs w v V n F) : Calls Tryz.prog 190 #[.pointer (some ⟨v, 0, none⟩), .bool on] w fun e w' => e = .returned (.tuple #[]) ∧ ValveIs w' v (V.hold on) n F ∧ Keep F w w' ∧ w'.heap.size = w.heap.size := by
  obtain ⟨gb, o, val, h⟩ := h
  have hc := h.blk.cell
  have hf := h.blk.frozen
  have hne := h.ne
  have hvn := h.val_ne
  have key : ∀ b : Bool, b = (on && V.running) → ValveIs (w.setCell ⟨v, 4, none⟩ (.bool b)) v (V.hold on) n F ∧ Keep F w (w.setCell ⟨v, 4, none⟩ (.bool b)) ∧ (w.setCell ⟨v, 4, none⟩ (.bool b)).heap.size = w.heap.size := by
    intro b hb
    have hk : Keep (fun x => x = v) w (w.setCell ⟨v, 4, none⟩ (.bool b)) := (Keep.refl (fun x => x = v) w).setCell (p := ⟨v, 4, none⟩) (fun _ => rfl) _
    refine ⟨⟨gb, o, val, ⟨?_, h.gate.far (p := ⟨v, 4, none⟩) (fun h => hne.1 h.symm) (fun h => hne.2 h.symm) _, h.value.keep hk (fun g hg e => hvn.1 (e ▸ hg)), h.fv, h.fg, h.fo, h.fx⟩⟩, (Keep.refl F w).setCell (p := ⟨v, 4, none⟩) (fun _ => h.fv) _, by simp [World.setCell]⟩
    subst hb
    simpa [ValveM.hold] using h.blk.set_ 4 (.bool (on && V.running))
  cases on with
  | false =>
    go_enter Tryz.func190, Tryz.ntmps190
    go_wp2_with fail
    go_end0
    exact ⟨rfl, key false rfl⟩
  | true =>
    go_enter Tryz.func190, Tryz.ntmps190
    go_wp2_with fail
    go_end0
    exact ⟨rfl, key V.running (by simp)⟩
theorem valveTrip_any (v : Nat) (V : ValveM) (n : Int) (F : Nat → Prop) (code : Int) (w : World) (hcode : code ≠ 0) (h : ValveIs w v V n F) : Calls Tryz.prog 130 #[.pointer (some ⟨v, 0, none⟩), .int .i64 code] w fun e w' => e = .returned (.bool (V.trip code).2) ∧ ValveIs w' v (V.trip code).1 n F ∧ Keep F w w' := by
  obtain ⟨gb, o, val, h⟩ := h
  have hc := h.blk.cell
  have hf := h.blk.frozen
  have hne := h.ne
  have hcod : (code == 0) = false := by simpa using hcode
  have e1 : V.trip code = ({ V with value := none, fresh := false, latched := if V.latched = 0 then code else V.latched }, V.latched == 0) := by unfold ValveM.trip; rw [if_neg hcode]
  rw [e1]
  clear e1
  have htrip := fun w (hg : GateIs w gb o V.latched) => gateTrip_any gb o V.latched code w hcode hg
  generalize (if V.latched = 0 then code else V.latched) = nl at *
  go_enter Tryz.func130, Tryz.ntmps130
  go_wp2_with fail
  have hg2 := (h.gate.far (p := ⟨v, 5, none⟩) (fun h => hne.1 h.symm) (fun h => hne.2 h.symm) (.slice none 0 0)).far (p := ⟨v, 3, none⟩) (fun h => hne.1 h.symm) (fun h => hne.2 h.symm) (.bool false)
  have hb2 := (h.blk.set_ 5 (.slice none 0 0)).set_ 3 (.bool false)
  have hk2 := ((Keep.refl F w).setCell (p := ⟨v, 5, none⟩) (fun _ => h.fv) (.slice none 0 0)).setCell (p := ⟨v, 3, none⟩) (fun _ => h.fv) (.bool false)
  refine (htrip _ hg2).mono ?_
  rintro e w1 ⟨rfl, hg3, hk3⟩
  go_wp2_with fail
  go_ret
  refine ⟨rfl, ⟨gb, o, .slice none 0 0, ⟨?_, hg3, rfl, h.fv, h.fg, h.fo, fun x hx => by simp [Value.ownBlock] at hx⟩⟩, hk2.andThen hk3 (fun x _ hx => ?_)⟩
  · have := hb2.keep hk3 (fun hx => hx.elim hne.1 hne.2)
    simpa using this
  · rcases hx with h1 | h1
    · exact h1 ▸ h.fg
    · exact h1 ▸ h.fo
theorem valveAck_any (v : Nat) (V : ValveM) (n : Int) (F : Nat → Prop) (w : World) (hV : ValveIs w v V n F) : Calls Tryz.prog 118 #[.pointer (some ⟨v, 0, none⟩)] w fun e w' => e = .returned (.int .i64 (if V.request then 0 else 110)) ∧ ValveIs w' v V.ack n (grow F w w') ∧ Keep F w w' := by
  have hreq := fun w h => valveRequest_any v V n F w h
  cases hr : V.request with
  | false =>
    rw [hr] at hreq
    have e1 : V.ack = V := by unfold ValveM.ack; rw [hr]; rfl
    rw [e1]
    go_enter Tryz.func118, Tryz.ntmps118
    go_wp2_with fail
    refine (hreq _ hV).mono ?_
    rintro e w1 ⟨rfl, rfl⟩
    go_wp2_with fail
    go_ret
    exact ⟨rfl, hV.keep (S := fun _ => False) (Keep.refl _ _) (fun _ _ h => h) (fun _ h => .inl h), Keep.refl _ _⟩
  | true =>
    rw [hr] at hreq
    have e1 : V.ack = { V with latched := 0, fresh := false } := by unfold ValveM.ack; rw [hr]; rfl
    rw [e1]
    have h0 := hV
    obtain ⟨gb, o, val, hV⟩ := hV
    have hc := hV.blk.cell
    go_enter Tryz.func118, Tryz.ntmps118
    go_wp2_with fail
    refine (hreq _ h0).mono ?_
    rintro e w1 ⟨rfl, rfl⟩
    go_wp2_with fail
    refine (gateLift_any gb o _ _ hV.gate).mono ?_
    rintro e w2 ⟨rfl, hg2, hk2, hs2⟩
    have hb2 := hV.blk.keep hk2 hV.ne.1
    have hvg : w1.heap.size ≠ v := by have := hV.blk.lt; omega
    have hval2 := hV.value.keep hk2 (fun g hg e => hV.val_ne.2.1 (e ▸ hg))
    have Hs2 := Lib.hid hs2
    clear hc hs2
    have hc := hb2.cell
    have hf := hb2.frozen
    go_wp2_with fail
    go_ret
    have hs := Hs2.out
    have hk3 : Keep (fun x => x = v) w2 (w2.setCell ⟨v, 3, none⟩ (.bool false)) := (Keep.refl (fun x => x = v) w2).setCell (p := ⟨v, 3, none⟩) (fun _ => rfl) _
    refine ⟨rfl, ⟨gb, w1.heap.size, val, ⟨?_, hg2.far (p := ⟨v, 3, none⟩) (fun e => hV.ne.1 e.symm) hvg _, hval2.keep hk3 (fun g hg e => hV.val_ne.1 (e ▸ hg)), .inl hV.fv, .inl hV.fg, .inr ⟨Nat.le_refl _, by simp [World.setCell]; omega⟩, fun x hx => .inl (hV.fx x hx)⟩⟩, (hk2.mono (fun x _ hx => hx ▸ hV.fg)).setCell (p := ⟨v, 3, none⟩) (fun _ => hV.fv) _⟩
    simpa using hb2.set_ 3 (.bool false)
end Go.Proofs.YtlldgfejcjnpkaaGreat
/- passive's New, Take and Output by their contracts. -/
namespace Go.Proofs.YtlldgfejcjnpkaaGreat
open Go.RowKit
set_option maxHeartbeats 4000000
set_option maxRecDepth 100000

theorem made_zero (n : Nat) : madeCells #[Value.int .u8 0] n = (u8c (List.replicate n 0)).toArray := by
  apply Array.ext
  · simp [madeCells, u8c]
  · intro i h1 h2
    have hm : i % 1 = 0 := Nat.mod_one i
    simp [madeCells, u8c, hm]
theorem Keep.growBelow {F : Nat → Prop} {w w' : World} (h : Below w.heap.size w w') : Keep F w w' := Keep.of_below h
theorem valveNew_any (n : Int) (w : World) (h1 : 1 ≤ n) (h8 : n ≤ 8) : Calls Tryz.prog 97 #[.int .i64 n] w fun e w' => ∃ v, e = .returned (.tuple #[.pointer (some ⟨v, 0, none⟩), .int .i64 0]) ∧ ValveIs w' v {} n (fun x => w.heap.size ≤ x ∧ x < w'.heap.size) ∧ w.heap.size ≤ v ∧ v < w'.heap.size ∧ Below w.heap.size w w' := by
  go_enter Tryz.func97, Tryz.ntmps97
  go_wp2_with fail
  refine (gateNew_any _).mono ?_
  rintro e w1 ⟨rfl, hg, hb, hs⟩
  have Hs := Lib.hid hs
  clear hs
  go_wp2_with fail
  refine bodyPost_ret (v := .tuple #[.pointer (some ⟨w1.heap.size, 0, none⟩), .int .i64 0]) (by simp [results, Tryz.results97, go_sem]) rfl ⟨_, rfl, ⟨w.heap.size + 1, w.heap.size, .slice none 0 0, ⟨Blk.new w1 _ _, hg.keep (S := fun _ => False) ((Keep.refl _ w1).alloc _) id id, rfl, ?_, ?_, ?_, fun x hx => by simp [Value.ownBlock] at hx⟩⟩, ?_, ?_, hb.alloc hb.size _⟩
  all_goals (have := Hs.out; simp; try omega)
theorem valveTake_any (v : Nat) (V : ValveM) (n : Int) (F : Nat → Prop) (A : Option Addr) (c B : Nat) (l : List UInt8) (w : World) (hV : ValveIs w v V n F) (hr : Reads w B 1 A l.length (u8c l)) (hB : B ≤ w.heap.size) (hn : n = (l.length : Int)) (h1 : 0 < l.length) (h8 : l.length ≤ 1000) :
    Calls Tryz.prog 191 #[.pointer (some ⟨v, 0, none⟩), .slice A l.length c] w fun e w' => e = .returned (.int .i64 0) ∧ ValveIs w' v (V.take l) n (grow F w w') ∧ Keep F w w' := by
  subst hn
  obtain ⟨ad, rfl⟩ : ∃ ad, A = some ad := by
    obtain ⟨ad, h, _⟩ := hr.2 h1
    exact ⟨ad, h⟩
  have h0 := hV
  obtain ⟨gb, o, val, hV⟩ := hV
  have hc := hV.blk.cell
  have hclone := fun w (hr : Reads w B 1 (some ad) l.length (u8c l)) (hB : B ≤ w.heap.size) => cloneByte_any (some ad) l.length c l B w (fun h => by cases h) hr hB (by omega)
  have same : V.take l = V → ValveIs w v (V.take l) l.length (grow F w w) := fun e => by rw [e]; exact h0.keep (S := fun _ => False) (Keep.refl _ _) (fun _ _ h => h) (fun _ h => .inl h)
  generalize hN : l.length = N at *
  clear hN
  cases hrun : V.running with
  | false =>
    have e1 : V.take l = V := by unfold ValveM.take; rw [hrun]; rfl
    have hs := same e1
    rw [hrun] at hc
    clear same e1
    go_enter Tryz.func191, Tryz.ntmps191
    go_wp2_with fail
    go_ret
    exact ⟨rfl, hs, Keep.refl _ _⟩
  | true =>
    rw [hrun] at hc
    cases hlat : (V.latched == 0) with
    | false =>
      have e1 : V.take l = V := by unfold ValveM.take; rw [hrun, hlat]; rfl
      have hs := same e1
      clear same e1
      go_enter Tryz.func191, Tryz.ntmps191
      go_wp2_with fail
      refine (gateCode_any gb o _ _ hV.gate).mono ?_
      rintro e w1 ⟨rfl, rfl⟩
      go_wp2_with fail
      go_ret
      exact ⟨rfl, hs, Keep.refl _ _⟩
    | true =>
      have e1 : V.take l = { V with value := some l } := by unfold ValveM.take; rw [hrun, hlat]; rfl
      rw [e1]
      clear same e1
      go_enter Tryz.func191, Tryz.ntmps191
      go_wp2_with fail
      refine (gateCode_any gb o _ _ hV.gate).mono ?_
      rintro e w1 ⟨rfl, rfl⟩
      go_wp2_with fail
      refine (hclone _ hr hB).mono ?_
      rintro e w2 ⟨v2, rfl, hown2, _, hsome, hb2⟩
      obtain ⟨A2, c2, rfl⟩ := own_slice hown2
      have hV2 := hV.keep (F' := F) (S := fun _ => False) (Keep.of_below hb2) (fun _ _ h => h) (fun _ h => h)
      have hc2 := hV2.blk.cell
      have hf2 := hV2.blk.frozen
      clear hc
      go_wp2_with fail
      go_ret
      have hne := hV2.ne
      have hsz := hb2.size
      have hlt := hown2.lt
      have hfar : (Value.slice A2 N c2).ownBlock ≠ some v := fun e => by have := (hlt v e).1; have := hV.blk.lt; omega
      have hk3 : Keep (fun x => x = v) w2 (w2.setCell ⟨v, 5, none⟩ (.slice A2 N c2)) := (Keep.refl (fun x => x = v) w2).setCell (p := ⟨v, 5, none⟩) (fun _ => rfl) _
      have hs3 : (w2.setCell ⟨v, 5, none⟩ (.slice A2 N c2)).heap.size = w2.heap.size := by simp [World.setCell]
      refine ⟨rfl, ⟨gb, o, .slice A2 N c2, ⟨?_, hV2.gate.far (p := ⟨v, 5, none⟩) (fun e => hne.1 e.symm) (fun e => hne.2 e.symm) _, ⟨?_, hsome (by simp)⟩, .inl hV.fv, .inl hV.fg, .inl hV.fo, fun x hx => .inr ?_⟩⟩, (Keep.of_below hb2).setCell (p := ⟨v, 5, none⟩) (fun _ => hV.fv) _⟩
      · have := hV2.blk.set_ 5 (.slice A2 N c2)
        rw [hrun] at this
        simpa [hrun] using this
      · have hlN : l.length = N := by have := hown2.1; rw [u8c_length] at this; omega
        rw [hlN]
        exact own_base (own_far hown2 hfar 5 _) (Nat.zero_le _)
      · rw [hs3]
        exact hlt x hx
theorem own_made (w : World) (N : Nat) (h : N ≤ 1000) : (w.alloc (.cells (madeCells #[.int .u8 0] N) 5)).ownsRow w.heap.size 5 1 (.slice (some ⟨w.heap.size, 0, none⟩) N N) N (u8c (List.replicate N 0)) := by
  rw [made_zero]
  have := own_full w (u8c (List.replicate N 0)).toArray 5 w.heap.size (Nat.le_refl _) (by simp [u8c, maxLen]; omega)
  simpa [u8c] using this
theorem valveOutput_any (v : Nat) (V : ValveM) (N : Nat) (F : Nat → Prop) (w : World) (hV : ValveIs w v V (N : Int) F) (hN : N ≤ 8) (hval : ∀ b, V.value = some b → b.length = N) :
    Calls Tryz.prog 60 #[.pointer (some ⟨v, 0, none⟩)] w fun e w' => ∃ x, e = .returned (.tuple #[x, .bool V.on]) ∧ w'.ownsRow w.heap.size 5 1 x N (u8c (V.output N)) ∧ (V.output N).length = N ∧ Below w.heap.size w w' := by
  obtain ⟨gb, o, val, hV⟩ := hV
  have hc := hV.blk.cell
  have hmk := run_make_row' (P := Tryz.prog) 22 5 (.int .u8 0) 1 Tryz.underlying22 byte_info rfl .i64 .i64 N (by omega) (by omega)
  have hq := fun (W : World) (a : Option Addr) (n c n' c' : Nat) => run_neq_slice_nil_any (P := Tryz.prog) W 22 5 a n c n' c' Tryz.underlying22
  have off : V.on = false → V.output N = List.replicate N 0 := fun e => by unfold ValveM.output; rw [e]; rfl
  cases hrun : V.running with
  | false =>
    have e1 : V.on = false := by unfold ValveM.on; rw [hrun]; rfl
    rw [off e1, e1]
    rw [hrun] at hc
    go_enter Tryz.func60, Tryz.ntmps60
    go_wp2_with fail
    refine bodyPost_ret (v := .tuple #[.slice (some ⟨w.heap.size, 0, none⟩) N N, .bool false]) (by simp [results, Tryz.results60, go_sem]) rfl ⟨_, rfl, own_made w N (by omega), by simp, (Below.refl _ _).alloc (Nat.le_refl _) _⟩
  | true =>
    rw [hrun] at hc
    cases hheld : V.held with
    | true =>
      have e1 : V.on = false := by unfold ValveM.on; rw [hheld, hrun]; rfl
      rw [off e1, e1]
      rw [hheld] at hc
      go_enter Tryz.func60, Tryz.ntmps60
      go_wp2_with fail
      refine bodyPost_ret (v := .tuple #[.slice (some ⟨w.heap.size, 0, none⟩) N N, .bool false]) (by simp [results, Tryz.results60, go_sem]) rfl ⟨_, rfl, own_made w N (by omega), by simp, (Below.refl _ _).alloc (Nat.le_refl _) _⟩
    | false =>
      rw [hheld] at hc
      have hvalue := hV.value
      cases hv : V.value with
      | none =>
        have e1 : V.on = false := by unfold ValveM.on; rw [hheld, hrun, hv]; rfl
        rw [off e1, e1]
        rw [hv] at hvalue
        unfold ValIs at hvalue
        simp only at hvalue
        subst hvalue
        go_enter Tryz.func60, Tryz.ntmps60
        go_wp2_with fail
        refine bodyPost_ret (v := .tuple #[.slice (some ⟨w.heap.size, 0, none⟩) N N, .bool false]) (by simp [results, Tryz.results60, go_sem]) rfl ⟨_, rfl, own_made w N (by omega), by simp, (Below.refl _ _).alloc (Nat.le_refl _) _⟩
      | some b =>
        have e1 : V.on = true := by unfold ValveM.on; rw [hheld, hrun, hv]; rfl
        have e2 : V.output N = b := by unfold ValveM.output; rw [e1, hv]; rfl
        rw [e1, e2]
        have hbl := hval b hv
        rw [hv] at hvalue
        obtain ⟨hown, g, hg⟩ := (hvalue : w.ownsRow 0 5 1 val b.length (u8c b) ∧ ∃ g, val.ownBlock = some g)
        obtain ⟨A, c, rfl⟩ := own_slice hown
        rw [hbl] at hown hg hc ⊢
        obtain ⟨ad, rfl⟩ : ∃ ad, A = some ad := by
          cases A with
          | none => simp [Value.ownBlock] at hg
          | some ad => exact ⟨ad, rfl⟩
        have Hbl := Lib.hid hbl
        clear hbl hval off hV e1 e2 hv
        go_enter Tryz.func60, Tryz.ntmps60
        go_wp2_with fail
        refine (cloneByte_any (some ad) N c b w.heap.size w (fun h => by cases h) (Reads.of_own hown) (Nat.le_refl _) (by omega)).mono ?_
        rintro e w2 ⟨v2, rfl, hown2, _, _, hb2⟩
        go_wp2_with fail
        refine bodyPost_ret (v := .tuple #[v2, .bool true]) (by simp [results, Tryz.results60, go_sem]) rfl ⟨_, rfl, hown2, by first | trivial | exact Hbl.out, hb2⟩
end Go.Proofs.YtlldgfejcjnpkaaGreat
/- watch's dog by its contracts. -/
namespace Go.Proofs.YtlldgfejcjnpkaaGreat
open Go.RowKit
set_option maxHeartbeats 4000000
set_option maxRecDepth 100000

/-- A dog. -/
def DogIs (w : World) (d : Nat) (limit since : Int) : Prop := Blk w d 220 #[.int .i64 limit, .int .i32 since]
theorem int32Load_any (a : Addr) (n : Int) (w : World) (hc : w.cell? a = some (.int .i32 n)) :
    Calls Tryz.prog 116 #[.pointer (some a)] w fun e w' => e = .returned (.int .i32 n) ∧ w' = w := by
  have hl := run_call_load (P := Tryz.prog) Tryz.func159 (by kernel_rfl) (by kernel_rfl) (by kernel_rfl) .i32 (by kernel_rfl) hc
  go_enter Tryz.func116, Tryz.ntmps116
  go_wp2
  go_ret
  exact ⟨rfl, rfl⟩
theorem int32Store_any (a : Addr) (n m : Int) (w : World) (hc : w.cell? a = some (.int .i32 n)) (hz : w.frozen? a = false) :
    Calls Tryz.prog 227 #[.pointer (some a), .int .i32 m] w fun e w' => e = .returned (.tuple #[]) ∧ w' = w.setCell a (.int .i32 m) := by
  have hst := run_call_store (P := Tryz.prog) Tryz.func230 (by kernel_rfl) (by kernel_rfl) (by kernel_rfl) (by kernel_rfl) (k := .i32) (y := m) hc hz
  go_enter Tryz.func227, Tryz.ntmps227
  go_wp2
  go_end0
  exact ⟨rfl, rfl⟩
theorem int32Add_any (a : Addr) (n m s : Int) (w : World) (hc : w.cell? a = some (.int .i32 n)) (hz : w.frozen? a = false) (hs : IntKind.i32.wrap (n + m) = s) :
    Calls Tryz.prog 129 #[.pointer (some a), .int .i32 m] w fun e w' => e = .returned (.int .i32 s) ∧ w' = w.setCell a (.int .i32 s) := by
  have hadd := run_call_add (P := Tryz.prog) Tryz.func173 (by kernel_rfl) (by kernel_rfl) (by kernel_rfl) .i32 (by kernel_rfl) (x := n) (y := m) (s := s) hc hz (by simp [go_sem, hs])
  clear hs
  go_enter Tryz.func129, Tryz.ntmps129
  go_wp2
  go_ret
  exact ⟨rfl, rfl⟩
theorem dogNew_any (limit : Int) (w : World) (h1 : 1 ≤ limit) (h2 : limit ≤ 1048576) : Calls Tryz.prog 96 #[.int .i64 limit] w fun e w' => e = .returned (.tuple #[.pointer (some ⟨w.heap.size, 0, none⟩), .int .i64 0]) ∧ w' = w.alloc (.cells #[.int .i64 limit, .int .i32 0] 220) := by
  go_enter Tryz.func96, Tryz.ntmps96
  go_wp2_with fail
  refine bodyPost_ret (v := .tuple #[.pointer (some ⟨w.heap.size, 0, none⟩), .int .i64 0]) (by simp [results, Tryz.results96, go_sem]) rfl ⟨rfl, rfl⟩
theorem dogSince_any (d : Nat) (limit since : Int) (w : World) (hD : DogIs w d limit since) (hs : 0 ≤ since) (hs2 : since ≤ 1048576) : Calls Tryz.prog 61 #[.pointer (some ⟨d, 0, none⟩)] w fun e w' => e = .returned (.int .i64 since) ∧ w' = w := by
  have hw : IntKind.i64.wrap since = since := IntWalk.i64_in _ (by omega)
  go_enter Tryz.func61, Tryz.ntmps61
  go_wp2_with fail
  refine (int32Load_any ⟨d, 1, none⟩ since w ((hD.cell 1).trans rfl)).mono ?_
  rintro e w1 ⟨rfl, rfl⟩
  go_wp2_with fail
  go_ret
  exact ⟨rfl, rfl⟩
theorem dogFeed_any (d : Nat) (limit since : Int) (w : World) (hD : DogIs w d limit since) : Calls Tryz.prog 215 #[.pointer (some ⟨d, 0, none⟩)] w fun e w' => e = .returned (.tuple #[]) ∧ DogIs w' d limit 0 ∧ w' = w.setCell ⟨d, 1, none⟩ (.int .i32 0) := by
  go_enter Tryz.func215, Tryz.ntmps215
  go_wp2_with fail
  refine (int32Store_any ⟨d, 1, none⟩ since 0 w ((hD.cell 1).trans rfl) (hD.frozen 1)).mono ?_
  rintro e w1 ⟨rfl, rfl⟩
  go_wp2_with fail
  go_end0
  refine ⟨rfl, ?_, rfl⟩
  have := hD.set_ 1 (.int .i32 0)
  simpa [DogIs] using this
theorem dogExpired_any (d : Nat) (limit since : Int) (w : World) (hD : DogIs w d limit since) (hs : 0 ≤ since) (hs2 : since ≤ 1048576) : Calls Tryz.prog 128 #[.pointer (some ⟨d, 0, none⟩)] w fun e w' => e = .returned (.bool (decide (limit ≤ since))) ∧ ∃ k, w' = w.drewN k := by
  have hw : IntKind.i64.wrap since = since := IntWalk.i64_in _ (by omega)
  have hc := hD.cell
  have hl : ∀ k, Calls Tryz.prog 116 #[.pointer (some ⟨d, 1, none⟩)] (w.drewN k) fun e w' => e = .returned (.int .i32 since) ∧ w' = w.drewN k := fun k => int32Load_any ⟨d, 1, none⟩ since _ ((hD.drewN k).cell 1)
  go_enter Tryz.func128, Tryz.ntmps128
  go_wp2_with fail
  go_big_quiet ((go_at_call 116; exact Calls.quiet_of_same (hl _)))
  go_wp2_with fail
  go_ret
  exact ⟨rfl, _, rfl⟩
theorem dogTicks_neg (d : Nat) (n : Int) (w : World) (hn : n < 0) : Calls Tryz.prog 76 #[.pointer (some ⟨d, 0, none⟩), .int .i64 n] w fun e w' => e = .returned (.tuple #[.bool false, .int .i64 2]) ∧ w' = w := by
  go_enter Tryz.func76, Tryz.ntmps76
  go_wp2_with fail
  refine bodyPost_ret (v := .tuple #[.bool false, .int .i64 2]) (by simp [results, Tryz.results76, go_sem]) rfl ⟨rfl, rfl⟩
theorem dogTicks_any (d : Nat) (limit since n : Int) (w : World) (hD : DogIs w d limit since) (hs : 0 ≤ since) (hl : since ≤ limit) (hs2 : limit ≤ 1048576) (hn : 0 ≤ n) :
    Calls Tryz.prog 76 #[.pointer (some ⟨d, 0, none⟩), .int .i64 n] w fun e w' => e = .returned (.tuple #[.bool (ticksM limit since n).2, .int .i64 0]) ∧ DogIs w' d limit (ticksM limit since n).1 ∧ Keep (fun x => x = d) w w' ∧ w'.heap.size = w.heap.size := by
  have hx := dogExpired_any d limit since w hD hs (by omega)
  by_cases h1 : limit ≤ since
  · have e1 : ticksM limit since n = (since, false) := by unfold ticksM; rw [if_pos h1]
    rw [e1]
    rw [decide_eq_true h1] at hx
    clear e1
    go_enter Tryz.func76, Tryz.ntmps76
    go_wp2_with fail
    refine hx.mono ?_
    rintro e w1 ⟨rfl, k, rfl⟩
    go_wp2_with fail
    refine bodyPost_ret (v := .tuple #[.bool false, .int .i64 0]) (by simp [results, Tryz.results76, go_sem]) rfl ⟨rfl, hD.drewN k, (Keep.refl _ w).drewN k, rfl⟩
  · rw [decide_eq_false h1] at hx
    have hsub : IntKind.i64.wrap (limit - since) = limit - since := IntWalk.i64_in _ (by omega)
    obtain ⟨s', Hs⟩ : ∃ s', Hid (s' = ticksM limit since n) := ⟨_, Lib.hid rfl⟩
    rw [← Hs.out]
    go_enter Tryz.func76, Tryz.ntmps76
    go_wp2_with fail
    refine hx.mono ?_
    rintro e w1 ⟨rfl, k, hW⟩
    have hD1 : DogIs w1 d limit since := hW ▸ hD.drewN k
    have hk1 : Keep (fun x => x = d) w w1 := hW ▸ (Keep.refl _ w).drewN k
    have Hz1 : Hid (w1.heap.size = w.heap.size) := Lib.hid (by rw [hW]; rfl)
    clear hW hx hD
    have hc := hD1.cell
    have hq : ∀ j, Calls Tryz.prog 61 #[.pointer (some ⟨d, 0, none⟩)] (w1.drewN j) fun e w' => e = .returned (.int .i64 since) ∧ w' = w1.drewN j := fun j => dogSince_any d limit since _ (hD1.drewN j) hs (by omega)
    go_wp2_with fail
    go_big_quiet ((go_at_call 61; exact Calls.quiet_of_same (hq _)))
    have hD2 := hD1.drewN nq
    have hk2 := hk1.drewN nq
    have Hz2 : Hid ((w1.drewN nq).heap.size = w.heap.size) := Lib.hid Hz1.out
    generalize w1.drewN nq = W2 at *
    have hc2 := hD2.cell
    have hf2 := hD2.frozen
    clear hc hq hD1 hk1 Hz1
    rcases Int.lt_trichotomy n (limit - since) with h2 | h2 | h2
    · have hw32 : IntKind.i32.wrap n = n := IntWalk.i32_in _ (by omega)
      have hadd : IntKind.i32.wrap (since + n) = since + n := IntWalk.i32_in _ (by omega)
      have hn2 : ¬ limit - since ≤ n := by omega
      have Hs2 : Hid (s' = (since + n, false)) := Lib.hid (Hs.out.trans (by unfold ticksM; rw [if_neg (by omega), if_neg hn2]))
      clear Hs
      go_wp2_with fail
      refine (int32Add_any ⟨d, 1, none⟩ since n (since + n) W2 ((hD2.cell 1).trans rfl) (hD2.frozen 1) hadd).mono ?_
      rintro e W3 ⟨rfl, hW⟩
      have hD3 : DogIs W3 d limit (since + n) := by
        rw [hW]
        simpa [DogIs] using hD2.set_ 1 (.int .i32 (since + n))
      have hk3 : Keep (fun x => x = d) w W3 := hW ▸ hk2.setCell (p := ⟨d, 1, none⟩) (fun _ => rfl) _
      have Hz3 : Hid (W3.heap.size = w.heap.size) := Lib.hid (by rw [hW, ← Hz2.out]; simp [World.setCell])
      clear hW hc2 hf2 hD2 hk2 Hz2
      have e2 := Hs2.out
      subst e2
      go_wp2_with fail
      refine bodyPost_ret (v := .tuple #[.bool false, .int .i64 0]) (by simp [results, Tryz.results76, go_sem, h2]) rfl ⟨rfl, hD3, hk3, by first | trivial | exact Hz3.out⟩
    · subst h2
      have hw32 : IntKind.i32.wrap (limit - since) = limit - since := IntWalk.i32_in _ (by omega)
      have hadd : IntKind.i32.wrap (since + (limit - since)) = limit := by rw [show since + (limit - since) = limit by omega]; exact IntWalk.i32_in _ (by omega)
      have Hs2 : Hid (s' = (limit, true)) := Lib.hid (Hs.out.trans (by unfold ticksM; rw [if_neg (by omega), if_pos (Int.le_refl _)]))
      clear Hs
      go_wp2_with fail
      refine (int32Add_any ⟨d, 1, none⟩ since (limit - since) limit W2 ((hD2.cell 1).trans rfl) (hD2.frozen 1) hadd).mono ?_
      rintro e W3 ⟨rfl, hW⟩
      have hD3 : DogIs W3 d limit limit := by
        rw [hW]
        simpa [DogIs] using hD2.set_ 1 (.int .i32 limit)
      have hk3 : Keep (fun x => x = d) w W3 := hW ▸ hk2.setCell (p := ⟨d, 1, none⟩) (fun _ => rfl) _
      have Hz3 : Hid (W3.heap.size = w.heap.size) := Lib.hid (by rw [hW, ← Hz2.out]; simp [World.setCell])
      clear hW hc2 hf2 hD2 hk2 Hz2
      have e2 := Hs2.out
      subst e2
      go_wp2_with fail
      refine bodyPost_ret (v := .tuple #[.bool true, .int .i64 0]) (by simp [results, Tryz.results76, go_sem]) rfl ⟨rfl, hD3, hk3, by first | trivial | exact Hz3.out⟩
    · have hw32 : IntKind.i32.wrap (limit - since) = limit - since := IntWalk.i32_in _ (by omega)
      have hadd : IntKind.i32.wrap (since + (limit - since)) = limit := by rw [show since + (limit - since) = limit by omega]; exact IntWalk.i32_in _ (by omega)
      have Hs2 : Hid (s' = (limit, true)) := Lib.hid (Hs.out.trans (by unfold ticksM; rw [if_neg (by omega), if_pos (by omega)]))
      clear Hs
      go_wp2_with fail
      refine (int32Add_any ⟨d, 1, none⟩ since (limit - since) limit W2 ((hD2.cell 1).trans rfl) (hD2.frozen 1) hadd).mono ?_
      rintro e W3 ⟨rfl, hW⟩
      have hD3 : DogIs W3 d limit limit := by
        rw [hW]
        simpa [DogIs] using hD2.set_ 1 (.int .i32 limit)
      have hk3 : Keep (fun x => x = d) w W3 := hW ▸ hk2.setCell (p := ⟨d, 1, none⟩) (fun _ => rfl) _
      have Hz3 : Hid (W3.heap.size = w.heap.size) := Lib.hid (by rw [hW, ← Hz2.out]; simp [World.setCell])
      clear hW hc2 hf2 hD2 hk2 Hz2
      have e2 := Hs2.out
      subst e2
      go_wp2_with fail
      refine bodyPost_ret (v := .tuple #[.bool true, .int .i64 0]) (by simp [results, Tryz.results76, go_sem, Int.le_of_lt h2]) rfl ⟨rfl, hD3, hk3, by first | trivial | exact Hz3.out⟩
end Go.Proofs.YtlldgfejcjnpkaaGreat
