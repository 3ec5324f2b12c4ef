/- The base of the laws, part 30: contracts and plain lemmas, no statement. -/
import Derived.Test.YtlldgfejcjnpkaaGreatBase14
import Derived.Test.YtlldgfejcjnpkaaGreatBase18
import Derived.Test.YtlldgfejcjnpkaaGreatBase29
set_option linter.unusedVariables false
/- A device's Write, Tick, Ack, Code, Log, See. -/
namespace Go.Proofs.YtlldgfejcjnpkaaGreat
open Go.RowKit
set_option maxHeartbeats 10000000
set_option maxRecDepth 100000

theorem devCode_any (B a mb : Nat) (m : DevM) (F : Nat → Prop) (w : World) (hI : DevIs B w a mb m F) : Calls Tryz.prog 82 #[.pointer (some ⟨a, 0, none⟩)] w fun e w' => e = .returned (.int .u32 m.p.code) ∧ w' = w := by
  obtain ⟨⟨κ, c, d, v, g, val, hH, hF⟩, hlo⟩ := hI
  have hc := hH.blk.cell
  unfold devCells at hc
  go_enter Tryz.func82, Tryz.ntmps82
  go_wp2_with fail
  go_ret
  exact ⟨rfl, rfl⟩
theorem devAck_any (B a mb : Nat) (m : DevM) (F : Nat → Prop) (w : World) (hI : DevIs B w a mb m F) : Calls Tryz.prog 65 #[.pointer (some ⟨a, 0, none⟩)] w fun e w' => e = .returned (.int .i64 m.ack.2) ∧ DevTo B w a mb m.ack.1 F w' := by
  have hI0 := hI
  obtain ⟨⟨κ, c, d, v, g, val, hH, hF⟩, hlo⟩ := hI
  have hc := hH.blk.cell
  unfold devCells at hc
  by_cases h6 : m.state = 6
  · have e1 : m.ack = (m, 70) := by unfold DevM.ack; rw [if_pos h6]
    rw [e1]
    rw [h6] at hc
    go_enter Tryz.func65, Tryz.ntmps65
    go_wp2_with fail
    go_ret
    exact ⟨rfl, DevTo.refl hI0⟩
  · have e1 : m.ack = ({ m with valve := m.valve.ack }, if m.valve.request then 0 else 110) := by
      unfold DevM.ack ValveM.ack
      rw [if_neg h6]
      cases m.valve.request <;> rfl
    rw [e1]
    have g6 : (m.state == 6) = false := by simpa using h6
    have hack := valveAck_any v m.valve _ _ w hH.valve
    generalize (if m.valve.request then (0 : Int) else 110) = r at *
    clear e1
    go_enter Tryz.func65, Tryz.ntmps65
    go_wp2_with fail
    refine hack.mono ?_
    rintro e w1 ⟨rfl, hv1, hk1⟩
    go_wp2_with fail
    go_ret
    exact ⟨rfl, hH.toValve hI0 hF hv1 hk1 (fun x hx => hx)⟩
theorem devTick_any (B a mb : Nat) (m : DevM) (F : Nat → Prop) (n : Int) (w : World) (hI : DevIs B w a mb m F) (hi : m.Inv) (hlen : m.log.length < 1073741800) :
    Calls Tryz.prog 33 #[.pointer (some ⟨a, 0, none⟩), .int .i64 n] w fun e w' => e = .returned (.int .i64 (m.tick n).2) ∧ DevTo B w a mb (m.tick n).1 F w' := by
  have hI0 := hI
  obtain ⟨⟨κ, c, d, v, g, val, hH, hF⟩, hlo⟩ := hI
  have hc := hH.blk.cell
  unfold devCells at hc
  by_cases h6 : m.state = 6
  · have e1 : m.tick n = (m, 70) := by unfold DevM.tick; rw [if_pos h6]
    rw [e1]
    rw [h6] at hc
    go_enter Tryz.func33, Tryz.ntmps33
    go_wp2_with fail
    go_ret
    exact ⟨rfl, DevTo.refl hI0⟩
  have g6 : (m.state == 6) = false := by simpa using h6
  by_cases hn : n < 0
  · have e1 : m.tick n = (m, 2) := by unfold DevM.tick; rw [if_neg h6, if_pos hn]
    rw [e1]
    clear e1
    go_enter Tryz.func33, Tryz.ntmps33
    go_wp2_with fail
    refine (dogTicks_neg d n w hn).mono ?_
    rintro e w1 ⟨rfl, rfl⟩
    go_wp2_with fail
    go_ret
    exact ⟨rfl, DevTo.refl hI0⟩
  · have hp8 := hi.p8
    have htk := dogTicks_any d m.p.watch m.since n w hH.dog hi.since.1 hi.since.2 hp8.2.2.1.2 (by omega)
    have htm : m.tick n = ((if (ticksM m.p.watch m.since n).2 then ({ m with since := (ticksM m.p.watch m.since n).1 } : DevM).trip 100 else { m with since := (ticksM m.p.watch m.since n).1 }), 0) := by unfold DevM.tick; rw [if_neg h6, if_neg hn]
    rw [htm]
    cases hr : (ticksM m.p.watch m.since n).2 with
    | false =>
      rw [hr] at htk
      simp only [Bool.false_eq_true, if_false]
      clear htm hp8
      go_enter Tryz.func33, Tryz.ntmps33
      go_wp2_with fail
      refine htk.mono ?_
      rintro e w1 ⟨rfl, hd1, hk1, hs1⟩
      have t1 := hH.toDog hI0 hF hd1 hk1
      clear hs1
      go_wp2_with fail
      go_ret
      exact ⟨rfl, t1⟩
    | true =>
      rw [hr] at htk
      simp only [if_true]
      clear htm hp8
      go_enter Tryz.func33, Tryz.ntmps33
      go_wp2_with fail
      refine htk.mono ?_
      rintro e w1 ⟨rfl, hd1, hk1, hs1⟩
      have t1 := hH.toDog hI0 hF hd1 hk1
      clear hs1
      go_wp2_with fail
      refine (devTrip_any B a mb _ _ 100 w1 (by decide) t1.is_ (by show m.log.length < _; omega)).mono ?_
      rintro e w2 ⟨rfl, t2⟩
      go_wp2_with fail
      go_ret
      exact ⟨rfl, DevTo.trans hI0 t1 t2⟩
end Go.Proofs.YtlldgfejcjnpkaaGreat
/- What one sees of a device. -/
namespace Go.Proofs.YtlldgfejcjnpkaaGreat
open Go.RowKit
set_option maxHeartbeats 10000000
set_option maxRecDepth 100000

theorem devS6 {w : World} {a mb c d v g : Nat} {m : DevM} {val : Value} (h : Blk w a 132 (devCells m mb c d v g val)) :
    w.cell? ⟨a, 8, none⟩ = some (.pointer (some ⟨d, 0, none⟩)) ∧ w.cell? ⟨a, 9, none⟩ = some (.pointer (some ⟨v, 0, none⟩)) ∧ w.cell? ⟨a, 11, none⟩ = some (.int .i64 m.state) ∧ w.cell? ⟨a, 12, none⟩ = some (.int .u32 m.session) ∧ w.cell? ⟨a, 13, none⟩ = some (.int .u32 m.number) ∧ w.cell? ⟨a, 14, none⟩ = some (.int .u32 m.sent) :=
  ⟨(h.cell 8).trans rfl, (h.cell 9).trans rfl, (h.cell 11).trans rfl, (h.cell 12).trans rfl, (h.cell 13).trans rfl, (h.cell 14).trans rfl⟩
theorem devSee_any (B a mb : Nat) (m : DevM) (F : Nat → Prop) (w : World) (hI : DevIs B w a mb m F) (hi : m.Inv) :
    Calls Tryz.prog 22 #[.pointer (some ⟨a, 0, none⟩)] w fun e w' => ∃ x, e = .returned (endVal m.see x) ∧ w'.ownsRow w.heap.size 5 1 x m.see.out.length (u8c m.see.out) ∧ Below w.heap.size w w' := by
  obtain ⟨⟨κ, c, d, v, g, val, hH, hF⟩, hlo⟩ := hI
  have hlaw := hi.plaw
  simp [ParM.lawful] at hlaw
  obtain ⟨N, hN⟩ : ∃ N : Nat, m.p.out = (N : Int) := ⟨m.p.out.toNat, by omega⟩
  have hN8 : N ≤ 8 := by omega
  have hwat : m.since ≤ 1048576 := by have := hi.since.2; omega
  have hsn := hi.since.1
  have hvv : ∀ b, m.valve.value = some b → b.length = N := fun b hb => by have := hi.vval b hb; omega
  obtain ⟨sm, Hsm⟩ : ∃ s, Hid (s = m.see) := ⟨_, Lib.hid rfl⟩
  rw [← Hsm.out]
  have HN := Lib.hid hN
  clear hlaw hN
  have h1 := hH.below ((Below.refl _ w).alloc (Nat.le_refl _) (.cells #[.int .i64 0, .int .u32 0, .int .u32 0, .int .u32 0, .int .i64 0, .int .i64 0, .bool false, .bool false, .slice none 0 0] 57))
  have hE := Blk.new w 57 #[.int .i64 0, .int .u32 0, .int .u32 0, .int .u32 0, .int .i64 0, .int .i64 0, .bool false, .bool false, .slice none 0 0]
  have hbE : Below w.heap.size w (w.alloc (.cells #[.int .i64 0, .int .u32 0, .int .u32 0, .int .u32 0, .int .i64 0, .int .i64 0, .bool false, .bool false, .slice none 0 0] 57)) := (Below.refl _ _).alloc (Nat.le_refl _) _
  have hea : w.heap.size ≠ a := by have := (hH.inF hH.ka).2; omega
  have hva := h1.valve
  rw [HN.out] at hva
  have hc := h1.blk.cell
  unfold devCells at hc
  go_enter Tryz.func22, Tryz.ntmps22
  go_wp2_with fail
  obtain ⟨e0, He0⟩ : ∃ e, Hid (e = w.heap.size) := ⟨_, Lib.hid rfl⟩
  rw [← He0.out] at hE hea ⊢
  generalize w.alloc (.cells #[.int .i64 0, .int .u32 0, .int .u32 0, .int .u32 0, .int .i64 0, .int .i64 0, .bool false, .bool false, .slice none 0 0] 57) = W0 at *
  refine (valveOutput_any v m.valve N _ W0 hva hN8 hvv).mono ?_
  rintro e W1 ⟨x, rfl, hown, hlen', hb1⟩
  have Hlen := Lib.hid hlen'
  clear hlen'
  have h2 := h1.below hb1
  have hE2 := hE.below hb1 hE.lt
  have hbE2 := hbE.trans (hb1.mono hbE.size)
  have hs0 := hbE.size
  obtain ⟨Ax, cx, rfl⟩ := own_slice hown
  have hb := h2.blk.drew
  have hd := (show DogIs W1.drew d m.p.watch m.since from h2.dog)
  have hv := h2.drew.valve
  have hel0 := hE.lt
  clear hc h1 hE hbE hva
  have huc := hE2.cell
  have huf := hE2.frozen
  have hc := h2.blk.cell
  unfold devCells at hc
  go_wp2_with fail
  go_region_held3 (fun w' => w'.cell? ⟨a, 8, none⟩ = some (.pointer (some ⟨d, 0, none⟩)) ∧ w'.cell? ⟨a, 9, none⟩ = some (.pointer (some ⟨v, 0, none⟩)) ∧ w'.cell? ⟨a, 11, none⟩ = some (.int .i64 m.state) ∧ w'.cell? ⟨a, 12, none⟩ = some (.int .u32 m.session) ∧ w'.cell? ⟨a, 13, none⟩ = some (.int .u32 m.number) ∧ w'.cell? ⟨a, 14, none⟩ = some (.int .u32 m.sent)) (with_reducible (first | exact devS6 hb | exact devS6 (hb.far9 hea) | exact devS6 (h2.blk.far9 hea).drew)) (first
    | (go_at_call 61; refine (dogSince_any d m.p.watch m.since _ hd hsn hwat).mono ?_; rintro e W2 ⟨rfl, rfl⟩)
    | (go_at_call 62; refine (valveLatched_any v m.valve _ _ _ hv).mono ?_; rintro e W2 ⟨rfl, rfl⟩)
    | (go_at_call 63; refine (valveRequest_any v m.valve _ _ _ hv).mono ?_; rintro e W2 ⟨rfl, rfl⟩))
  have hel := hE2.lt
  have hlt := hown.lt
  have hfar : ∀ y, (Value.slice Ax N cx).ownBlock = some y → ¬ y = e0 := fun y hy e => by have := (hlt y hy).1; omega
  have hE3 := (hE2.store9 (a0 := (.int .i64 m.state)) (a1 := (.int .u32 m.session)) (a2 := (.int .u32 m.number)) (a3 := (.int .u32 m.sent)) (a4 := (.int .i64 m.since)) (a5 := (.int .i64 m.valve.latched)) (a6 := (.bool m.valve.request)) (a7 := (.bool m.valve.on)) (a8 := (.slice Ax N cx))).drew
  have hb3 : Below w.heap.size w (((((((((W1.setCell ⟨e0, 0, none⟩ (.int .i64 m.state)).setCell ⟨e0, 1, none⟩ (.int .u32 m.session)).setCell ⟨e0, 2, none⟩ (.int .u32 m.number)).setCell ⟨e0, 3, none⟩ (.int .u32 m.sent)).setCell ⟨e0, 4, none⟩ (.int .i64 m.since)).setCell ⟨e0, 5, none⟩ (.int .i64 m.valve.latched)).setCell ⟨e0, 6, none⟩ (.bool m.valve.request)).setCell ⟨e0, 7, none⟩ (.bool m.valve.on)).setCell ⟨e0, 8, none⟩ (.slice Ax N cx)).drew := (below9 hbE2 (by have := He0.out; omega)).drew
  have hown3 := ownsRow_keep (S := fun x => x = e0) hown ((((((((((Keep.refl (fun x => x = e0) W1).setCell (p := ⟨e0, 0, none⟩) (fun _ => rfl) (.int .i64 m.state)).setCell (p := ⟨e0, 1, none⟩) (fun _ => rfl) (.int .u32 m.session)).setCell (p := ⟨e0, 2, none⟩) (fun _ => rfl) (.int .u32 m.number)).setCell (p := ⟨e0, 3, none⟩) (fun _ => rfl) (.int .u32 m.sent)).setCell (p := ⟨e0, 4, none⟩) (fun _ => rfl) (.int .i64 m.since)).setCell (p := ⟨e0, 5, none⟩) (fun _ => rfl) (.int .i64 m.valve.latched)).setCell (p := ⟨e0, 6, none⟩) (fun _ => rfl) (.bool m.valve.request)).setCell (p := ⟨e0, 7, none⟩) (fun _ => rfl) (.bool m.valve.on)).setCell (p := ⟨e0, 8, none⟩) (fun _ => rfl) (.slice Ax N cx)).drew hfar
  generalize (((((((((W1.setCell ⟨e0, 0, none⟩ (.int .i64 m.state)).setCell ⟨e0, 1, none⟩ (.int .u32 m.session)).setCell ⟨e0, 2, none⟩ (.int .u32 m.number)).setCell ⟨e0, 3, none⟩ (.int .u32 m.sent)).setCell ⟨e0, 4, none⟩ (.int .i64 m.since)).setCell ⟨e0, 5, none⟩ (.int .i64 m.valve.latched)).setCell ⟨e0, 6, none⟩ (.bool m.valve.request)).setCell ⟨e0, 7, none⟩ (.bool m.valve.on)).setCell ⟨e0, 8, none⟩ (.slice Ax N cx)).drew = W3 at *
  clear huc huf hc
  have huc := hE3.cell
  go_wp2_with fail
  have e1 : sm = m.see := Hsm.out
  have e2 : m.see.out = m.valve.output (N : Int) := by unfold DevM.see; rw [HN.out]
  subst e1
  refine bodyPost_ret (v := endVal m.see (.slice Ax N cx)) (by simp [results, Tryz.results22, go_sem, endVal, DevM.see, huc]) rfl ⟨_, rfl, ?_, hb3⟩
  rw [e2, Hlen.out]
  exact own_base hown3 hs0
end Go.Proofs.YtlldgfejcjnpkaaGreat
/- Lists of bytes that are held: each a row of its own. -/
namespace Go.Proofs.YtlldgfejcjnpkaaGreat
open Go.RowKit
set_option maxHeartbeats 10000000
set_option maxRecDepth 100000

/-- Lists of bytes that are held: each a row of its own. -/
structure Held (B : Nat) (w : World) (VS : List Value) : Prop where
  row : ∀ v ∈ VS, ∃ n xs, n ≤ 100000 ∧ w.ownsRow B 5 1 v n xs
  dis : VS.Pairwise fun u v => ∀ x, u.ownBlock = some x → v.ownBlock ≠ some x
section
variable {B : Nat} {w w' : World} {VS : List Value}
theorem Held.keep {S : Nat → Prop} (h : Held B w VS) (hk : Keep S w w') (hS : ∀ v ∈ VS, ∀ x, v.ownBlock = some x → ¬ S x) : Held B w' VS :=
  ⟨fun v hv => by obtain ⟨n, xs, h1, h2⟩ := h.row v hv; exact ⟨n, xs, h1, ownsRow_keep h2 hk (hS v hv)⟩, h.dis⟩
theorem Held.below (h : Held B w VS) (hb : Below w.heap.size w w') : Held B w' VS := h.keep (S := fun _ => False) (Keep.of_below hb) (fun _ _ _ _ h => h)
theorem Held.lt (h : Held B w VS) : ∀ v ∈ VS, ∀ x, v.ownBlock = some x → x < w.heap.size := fun v hv x hx => by
  obtain ⟨n, xs, _, h2⟩ := h.row v hv
  exact (h2.lt x hx).2
theorem Held.add (h : Held B w VS) {v : Value} {n base : Nat} {xs : List Value} (hn : n ≤ 100000) (hr : w.ownsRow base 5 1 v n xs) (hb : B ≤ base) (hd : ∀ u ∈ VS, ∀ x, u.ownBlock = some x → v.ownBlock ≠ some x) : Held B w (VS ++ [v]) := by
  refine ⟨fun u hu => ?_, ?_⟩
  · rcases List.mem_append.1 hu with h1 | h1
    · exact h.row u h1
    · rw [List.mem_singleton.1 h1]
      exact ⟨n, xs, hn, own_base hr hb⟩
  · rw [List.pairwise_append]
    exact ⟨h.dis, List.pairwise_singleton _ _, fun u hu u' hu' x hx => by rw [List.mem_singleton.1 hu']; exact hd u hu x hx⟩
end
end Go.Proofs.YtlldgfejcjnpkaaGreat
