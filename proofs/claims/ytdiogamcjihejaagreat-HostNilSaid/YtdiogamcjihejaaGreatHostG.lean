/- What one sees of a host. -/
import Derived.Test.YtdiogamcjihejaaGreatHostF
namespace Go.Proofs.YtdiogamcjihejaaGreat
open Go.RowKit
set_option maxHeartbeats 10000000
set_option maxRecDepth 100000

def endVal (e : EndM) (x : Value) : Value := .agg #[.int .i64 e.state, .int .u32 e.session, .int .u32 e.number, .int .u32 e.sent, .int .i64 e.since, .int .i64 e.latched, .bool e.request, .bool e.on, x]
theorem Blk.store9 {w : World} {e0 : Nat} {t : TypeId} {b0 b1 b2 b3 b4 b5 b6 b7 b8 a0 a1 a2 a3 a4 a5 a6 a7 a8 : Value} (h : Blk w e0 t #[b0, b1, b2, b3, b4, b5, b6, b7, b8]) :
    Blk (((((((((w.setCell ⟨e0, 0, none⟩ a0).setCell ⟨e0, 1, none⟩ a1).setCell ⟨e0, 2, none⟩ a2).setCell ⟨e0, 3, none⟩ a3).setCell ⟨e0, 4, none⟩ a4).setCell ⟨e0, 5, none⟩ a5).setCell ⟨e0, 6, none⟩ a6).setCell ⟨e0, 7, none⟩ a7).setCell ⟨e0, 8, none⟩ a8) e0 t #[a0, a1, a2, a3, a4, a5, a6, a7, a8] := by
  simpa using ((((((((h.set_ 0 a0).set_ 1 a1).set_ 2 a2).set_ 3 a3).set_ 4 a4).set_ 5 a5).set_ 6 a6).set_ 7 a7).set_ 8 a8
theorem Blk.far9 {w : World} {g e0 : Nat} {t : TypeId} {cs : Array Value} {a0 a1 a2 a3 a4 a5 a6 a7 a8 : Value} (hb : Blk w g t cs) (hne : e0 ≠ g) : Blk (((((((((w.setCell ⟨e0, 0, none⟩ a0).setCell ⟨e0, 1, none⟩ a1).setCell ⟨e0, 2, none⟩ a2).setCell ⟨e0, 3, none⟩ a3).setCell ⟨e0, 4, none⟩ a4).setCell ⟨e0, 5, none⟩ a5).setCell ⟨e0, 6, none⟩ a6).setCell ⟨e0, 7, none⟩ a7).setCell ⟨e0, 8, none⟩ a8) g t cs := (((((((((hb.farU hne _ _).farU hne _ _).farU hne _ _).farU hne _ _).farU hne _ _).farU hne _ _).farU hne _ _).farU hne _ _).farU hne _ _)
theorem below9 {B : Nat} {w0 w : World} {e0 : Nat} {a0 a1 a2 a3 a4 a5 a6 a7 a8 : Value} (h : Below B w0 w) (he : B ≤ e0) : Below B w0 (((((((((w.setCell ⟨e0, 0, none⟩ a0).setCell ⟨e0, 1, none⟩ a1).setCell ⟨e0, 2, none⟩ a2).setCell ⟨e0, 3, none⟩ a3).setCell ⟨e0, 4, none⟩ a4).setCell ⟨e0, 5, none⟩ a5).setCell ⟨e0, 6, none⟩ a6).setCell ⟨e0, 7, none⟩ a7).setCell ⟨e0, 8, none⟩ a8) :=
  ((((((((h.setCell (p := ⟨e0, 0, none⟩) he _).setCell (p := ⟨e0, 1, none⟩) he _).setCell (p := ⟨e0, 2, none⟩) he _).setCell (p := ⟨e0, 3, none⟩) he _).setCell (p := ⟨e0, 4, none⟩) he _).setCell (p := ⟨e0, 5, none⟩) he _).setCell (p := ⟨e0, 6, none⟩) he _).setCell (p := ⟨e0, 7, none⟩) he _).setCell (p := ⟨e0, 8, none⟩) he _
theorem hostS5 {w : World} {a d v g : Nat} {m : HostM} {val : Value} (h : Blk w a 117 (hostCells m d v g val)) :
    w.cell? ⟨a, 5, none⟩ = some (.pointer (some ⟨d, 0, none⟩)) ∧ w.cell? ⟨a, 6, none⟩ = some (.pointer (some ⟨v, 0, none⟩)) ∧ w.cell? ⟨a, 8, none⟩ = some (.int .i64 m.state) ∧ w.cell? ⟨a, 9, none⟩ = some (.int .u32 m.session) ∧ w.cell? ⟨a, 10, none⟩ = some (.int .u32 m.number) ∧ w.cell? ⟨a, 11, none⟩ = some (.int .u32 m.sent) :=
  ⟨(h.cell 5).trans rfl, (h.cell 6).trans rfl, (h.cell 8).trans rfl, (h.cell 9).trans rfl, (h.cell 10).trans rfl, (h.cell 11).trans rfl⟩
theorem hostSee_any (B a : Nat) (m : HostM) (F : Nat → Prop) (w : World) (hH : HostIs B w a m F) (hi : m.Inv) :
    Calls Tryz.prog 33 #[.pointer (some ⟨a, 0, none⟩)] w fun e w' => ∃ x, e = .returned (endVal m.see x) ∧ w'.ownsRow w.heap.size 5 1 x m.see.out.length (u8c m.see.out) ∧ Below w.heap.size w w' := by
  obtain ⟨d, v, g, val, FV, FL, hH⟩ := hH
  have hlaw := hi.plaw
  simp [ParM.lawful] at hlaw
  obtain ⟨N, hN⟩ : ∃ N : Nat, m.p.inn = (N : Int) := ⟨m.p.inn.toNat, by omega⟩
  have hN8 : N ≤ 8 := by omega
  have hwat : m.since ≤ 1048576 := by have := hi.since.2; omega
  have hsn := hi.since.1
  have hvv : ∀ b, m.valve.value = some b → b.length = N := fun b hb => by have := hi.vval b hb; omega
  obtain ⟨sm, Hsm⟩ : ∃ s, Hid (s = m.see) := ⟨_, Lib.hid rfl⟩
  rw [← Hsm.out]
  have HN := Lib.hid hN
  clear hlaw hN
  have h1 := hH.keepS (S := fun _ => False) ((Keep.refl _ w).alloc (.cells #[.int .i64 0, .int .u32 0, .int .u32 0, .int .u32 0, .int .i64 0, .int .i64 0, .bool false, .bool false, .slice none 0 0] 53)) (fun _ _ h => h)
  have hE := Blk.new w 53 #[.int .i64 0, .int .u32 0, .int .u32 0, .int .u32 0, .int .i64 0, .int .i64 0, .bool false, .bool false, .slice none 0 0]
  have hbE : Below w.heap.size w (w.alloc (.cells #[.int .i64 0, .int .u32 0, .int .u32 0, .int .u32 0, .int .i64 0, .int .i64 0, .bool false, .bool false, .slice none 0 0] 53)) := (Below.refl _ _).alloc (Nat.le_refl _) _
  have hea : w.heap.size ≠ a := by have := (hH.fb a hH.fa).2; omega
  have hva := h1.valve
  rw [HN.out] at hva
  have hc := h1.blk.cell
  unfold hostCells at hc
  go_enter Tryz.func33, Tryz.ntmps33
  go_wp2_with fail
  obtain ⟨e0, He0⟩ : ∃ e, Hid (e = w.heap.size) := ⟨_, Lib.hid rfl⟩
  rw [← He0.out] at hE hea ⊢
  generalize w.alloc (.cells #[.int .i64 0, .int .u32 0, .int .u32 0, .int .u32 0, .int .i64 0, .int .i64 0, .bool false, .bool false, .slice none 0 0] 53) = W0 at *
  refine (valveOutput_any v m.valve N FV W0 hva hN8 hvv).mono ?_
  rintro e W1 ⟨x, rfl, hown, hlen', hb1⟩
  have Hlen := Lib.hid hlen'
  clear hlen'
  have h2 := h1.keepS (S := fun _ => False) (Keep.of_below hb1) (fun _ _ h => h)
  have hE2 := hE.below hb1 hE.lt
  have hbE2 := hbE.trans (hb1.mono hbE.size)
  have hs0 := hbE.size
  obtain ⟨Ax, cx, rfl⟩ := own_slice hown
  have hb := h2.blk.drew
  have hd := (show DogIs W1.drew d m.p.watch m.since from h2.dog)
  have hv := h2.drew.valve
  have hel0 := hE.lt
  clear hc h1 hE hbE hva
  have huc := hE2.cell
  have huf := hE2.frozen
  have hc := h2.blk.cell
  unfold hostCells at hc
  go_wp2_with fail
  go_region_held3 (fun w' => w'.cell? ⟨a, 5, none⟩ = some (.pointer (some ⟨d, 0, none⟩)) ∧ w'.cell? ⟨a, 6, none⟩ = some (.pointer (some ⟨v, 0, none⟩)) ∧ w'.cell? ⟨a, 8, none⟩ = some (.int .i64 m.state) ∧ w'.cell? ⟨a, 9, none⟩ = some (.int .u32 m.session) ∧ w'.cell? ⟨a, 10, none⟩ = some (.int .u32 m.number) ∧ w'.cell? ⟨a, 11, none⟩ = some (.int .u32 m.sent)) (with_reducible (first | exact hostS5 hb | exact hostS5 (hb.far9 hea) | exact hostS5 (h2.blk.far9 hea).drew)) (first
    | (go_at_call 86; refine (dogSince_any d m.p.watch m.since _ hd hsn hwat).mono ?_; rintro e W2 ⟨rfl, rfl⟩)
    | (go_at_call 87; refine (valveLatched_any v m.valve _ FV _ hv).mono ?_; rintro e W2 ⟨rfl, rfl⟩)
    | (go_at_call 88; refine (valveRequest_any v m.valve _ FV _ hv).mono ?_; rintro e W2 ⟨rfl, rfl⟩))
  have hel := hE2.lt
  have hlt := hown.lt
  have hfar : ∀ y, (Value.slice Ax N cx).ownBlock = some y → ¬ y = e0 := fun y hy e => by have := (hlt y hy).1; omega
  have hE3 := (hE2.store9 (a0 := (.int .i64 m.state)) (a1 := (.int .u32 m.session)) (a2 := (.int .u32 m.number)) (a3 := (.int .u32 m.sent)) (a4 := (.int .i64 m.since)) (a5 := (.int .i64 m.valve.latched)) (a6 := (.bool m.valve.request)) (a7 := (.bool m.valve.on)) (a8 := (.slice Ax N cx))).drew
  have hb3 : Below w.heap.size w (((((((((W1.setCell ⟨e0, 0, none⟩ (.int .i64 m.state)).setCell ⟨e0, 1, none⟩ (.int .u32 m.session)).setCell ⟨e0, 2, none⟩ (.int .u32 m.number)).setCell ⟨e0, 3, none⟩ (.int .u32 m.sent)).setCell ⟨e0, 4, none⟩ (.int .i64 m.since)).setCell ⟨e0, 5, none⟩ (.int .i64 m.valve.latched)).setCell ⟨e0, 6, none⟩ (.bool m.valve.request)).setCell ⟨e0, 7, none⟩ (.bool m.valve.on)).setCell ⟨e0, 8, none⟩ (.slice Ax N cx)).drew := (below9 hbE2 (by have := He0.out; omega)).drew
  have hown3 := ownsRow_keep (S := fun x => x = e0) hown ((((((((((Keep.refl (fun x => x = e0) W1).setCell (p := ⟨e0, 0, none⟩) (fun _ => rfl) (.int .i64 m.state)).setCell (p := ⟨e0, 1, none⟩) (fun _ => rfl) (.int .u32 m.session)).setCell (p := ⟨e0, 2, none⟩) (fun _ => rfl) (.int .u32 m.number)).setCell (p := ⟨e0, 3, none⟩) (fun _ => rfl) (.int .u32 m.sent)).setCell (p := ⟨e0, 4, none⟩) (fun _ => rfl) (.int .i64 m.since)).setCell (p := ⟨e0, 5, none⟩) (fun _ => rfl) (.int .i64 m.valve.latched)).setCell (p := ⟨e0, 6, none⟩) (fun _ => rfl) (.bool m.valve.request)).setCell (p := ⟨e0, 7, none⟩) (fun _ => rfl) (.bool m.valve.on)).setCell (p := ⟨e0, 8, none⟩) (fun _ => rfl) (.slice Ax N cx)).drew hfar
  generalize (((((((((W1.setCell ⟨e0, 0, none⟩ (.int .i64 m.state)).setCell ⟨e0, 1, none⟩ (.int .u32 m.session)).setCell ⟨e0, 2, none⟩ (.int .u32 m.number)).setCell ⟨e0, 3, none⟩ (.int .u32 m.sent)).setCell ⟨e0, 4, none⟩ (.int .i64 m.since)).setCell ⟨e0, 5, none⟩ (.int .i64 m.valve.latched)).setCell ⟨e0, 6, none⟩ (.bool m.valve.request)).setCell ⟨e0, 7, none⟩ (.bool m.valve.on)).setCell ⟨e0, 8, none⟩ (.slice Ax N cx)).drew = W3 at *
  clear huc huf hc
  have huc := hE3.cell
  go_wp2_with fail
  have e1 : sm = m.see := Hsm.out
  have e2 : m.see.out = m.valve.output (N : Int) := by unfold HostM.see; rw [HN.out]
  subst e1
  refine bodyPost_ret (v := endVal m.see (.slice Ax N cx)) (by simp [results, Tryz.results33, go_sem, endVal, HostM.see, huc]) rfl ⟨_, rfl, ?_, hb3⟩
  rw [e2, Hlen.out]
  exact own_base hown3 hs0
end Go.Proofs.YtdiogamcjihejaaGreat
