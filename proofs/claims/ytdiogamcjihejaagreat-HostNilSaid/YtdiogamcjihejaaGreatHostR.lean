/- A host's Reset. -/
import Derived.Test.YtdiogamcjihejaaGreatHostH
namespace Go.Proofs.YtdiogamcjihejaaGreat
open Go.RowKit
set_option maxHeartbeats 10000000
set_option maxRecDepth 100000

theorem hostReset_any (B a g : Nat) (p : ParM) (L : List Rec) (FL : Nat → Prop) (x5 x6 x8 x9 x10 x11 x12 x13 x14 x15 : Value) (w : World) (hp : p.lawful = true)
    (hb : Blk w a 117 #[.int .u32 p.code, .int .i64 p.out, .int .i64 p.inn, .int .i64 p.watch, .int .u32 p.count, x5, x6, .pointer (some ⟨g, 0, none⟩), x8, x9, x10, x11, x12, x13, x14, x15])
    (hl : DiagIs w g L FL) (hla : ¬ FL a) (hfb : ∀ x, (x = a ∨ FL x) → B ≤ x ∧ x < w.heap.size) :
    Calls Tryz.prog 45 #[.pointer (some ⟨a, 0, none⟩)] w fun e w' => e = .returned (.int .i64 0) ∧ HostIs B w' a { p := p, log := L, value := List.replicate p.out.toNat 0 } (grow (fun x => x = a ∨ FL x) w w') ∧ Keep (fun x => x = a) w w' := by
  have hlaw := hp
  simp [ParM.lawful] at hlaw
  obtain ⟨N, hN⟩ : ∃ N : Nat, p.out = (N : Int) := ⟨p.out.toNat, by omega⟩
  have hN8 : N ≤ 8 := by omega
  have HN := Lib.hid hN
  have hd := fun w => dogNew_any p.watch w (by omega) (by omega)
  have hv := fun w => valveNew_any p.inn w (by omega) (by omega)
  have hmk := run_make_row' (P := Tryz.prog) 22 5 (.int .u8 0) 1 Tryz.underlying22 byte_info rfl .i64 .i64 N (by omega) (by omega)
  rw [hN] at hb
  clear hlaw hN
  have hc := hb.cell
  go_enter Tryz.func45, Tryz.ntmps45
  go_wp2_with fail
  refine (hd _).mono ?_
  rintro e W1 ⟨rfl, hW⟩
  have hb1 : Blk W1 a 117 _ := hW ▸ hb.alloc _
  have hd1 : DogIs W1 w.heap.size p.watch 0 := hW ▸ Blk.new w _ _
  have hbe1 : Below w.heap.size w W1 := hW ▸ (Below.refl _ w).alloc (Nat.le_refl _) _
  have hz1 : Hid (W1.heap.size = w.heap.size + 1) := Lib.hid (by rw [hW]; simp)
  obtain ⟨d0, Hd0⟩ : ∃ e, Hid (e = w.heap.size) := ⟨_, Lib.hid rfl⟩
  rw [← Hd0.out] at hd1 ⊢
  clear hW hc
  have hc := hb1.cell
  have hf := hb1.frozen
  go_wp2_with fail
  have hb2 : Blk (W1.setCell ⟨a, 5, none⟩ (.pointer (some ⟨d0, 0, none⟩))) a 117 #[.int .u32 p.code, .int .i64 N, .int .i64 p.inn, .int .i64 p.watch, .int .u32 p.count, .pointer (some ⟨d0, 0, none⟩), x6, .pointer (some ⟨g, 0, none⟩), x8, x9, x10, x11, x12, x13, x14, x15] := by simpa using hb1.set_ 5 (.pointer (some ⟨d0, 0, none⟩))
  refine (hv _).mono ?_
  rintro e W2 ⟨v, rfl, hv2, hv3, hv4, hbe2⟩
  have hb3 := hb2.below hbe2 hb2.lt
  clear hc hf
  have hc := hb3.cell
  have hf := hb3.frozen
  have hb4 : Blk (W2.setCell ⟨a, 6, none⟩ (.pointer (some ⟨v, 0, none⟩))) a 117 #[.int .u32 p.code, .int .i64 N, .int .i64 p.inn, .int .i64 p.watch, .int .u32 p.count, .pointer (some ⟨d0, 0, none⟩), .pointer (some ⟨v, 0, none⟩), .pointer (some ⟨g, 0, none⟩), x8, x9, x10, x11, x12, x13, x14, x15] := by simpa using hb3.set_ 6 (.pointer (some ⟨v, 0, none⟩))
  have hcA := fun o => (hb4.alloc o).cell
  have hfA := fun o => (hb4.alloc o).frozen
  go_wp2_with fail
  have hsz3 : (W2.setCell ⟨a, 6, none⟩ (.pointer (some ⟨v, 0, none⟩))).heap.size = W2.heap.size := by simp [World.setCell]
  have hmade := own_made (W2.setCell ⟨a, 6, none⟩ (.pointer (some ⟨v, 0, none⟩))) N (by omega)
  rw [hsz3] at hmade
  have hkB : Keep (fun x => x = a) W2 ((((((((((W2.setCell ⟨a, 6, none⟩ (.pointer (some ⟨v, 0, none⟩))).alloc (.cells (madeCells #[.int .u8 0] N) 5)).setCell ⟨a, 8, none⟩ (.int .i64 1)).setCell ⟨a, 9, none⟩ (.int .u32 0)).setCell ⟨a, 10, none⟩ (.int .u32 0)).setCell ⟨a, 11, none⟩ (.int .u32 0)).setCell ⟨a, 12, none⟩ (.bool false)).setCell ⟨a, 13, none⟩ (.int .i64 0)).setCell ⟨a, 14, none⟩ (.slice (some ⟨W2.heap.size, 0, none⟩) N N)).setCell ⟨a, 15, none⟩ (.bool false)) := (((((((((((Keep.refl (fun x => x = a) W2).setCell (p := ⟨a, 6, none⟩) (fun _ => rfl) (.pointer (some ⟨v, 0, none⟩))).alloc (.cells (madeCells #[.int .u8 0] N) 5)).setCell (p := ⟨a, 8, none⟩) (fun _ => rfl) (.int .i64 1)).setCell (p := ⟨a, 9, none⟩) (fun _ => rfl) (.int .u32 0)).setCell (p := ⟨a, 10, none⟩) (fun _ => rfl) (.int .u32 0)).setCell (p := ⟨a, 11, none⟩) (fun _ => rfl) (.int .u32 0)).setCell (p := ⟨a, 12, none⟩) (fun _ => rfl) (.bool false)).setCell (p := ⟨a, 13, none⟩) (fun _ => rfl) (.int .i64 0)).setCell (p := ⟨a, 14, none⟩) (fun _ => rfl) (.slice (some ⟨W2.heap.size, 0, none⟩) N N)).setCell (p := ⟨a, 15, none⟩) (fun _ => rfl) (.bool false))
  have hkM : Keep (fun x => x = a) ((W2.setCell ⟨a, 6, none⟩ (.pointer (some ⟨v, 0, none⟩))).alloc (.cells (madeCells #[.int .u8 0] N) 5)) ((((((((((W2.setCell ⟨a, 6, none⟩ (.pointer (some ⟨v, 0, none⟩))).alloc (.cells (madeCells #[.int .u8 0] N) 5)).setCell ⟨a, 8, none⟩ (.int .i64 1)).setCell ⟨a, 9, none⟩ (.int .u32 0)).setCell ⟨a, 10, none⟩ (.int .u32 0)).setCell ⟨a, 11, none⟩ (.int .u32 0)).setCell ⟨a, 12, none⟩ (.bool false)).setCell ⟨a, 13, none⟩ (.int .i64 0)).setCell ⟨a, 14, none⟩ (.slice (some ⟨W2.heap.size, 0, none⟩) N N)).setCell ⟨a, 15, none⟩ (.bool false)) := (((((((((Keep.refl (fun x => x = a) _).setCell (p := ⟨a, 8, none⟩) (fun _ => rfl) (.int .i64 1)).setCell (p := ⟨a, 9, none⟩) (fun _ => rfl) (.int .u32 0)).setCell (p := ⟨a, 10, none⟩) (fun _ => rfl) (.int .u32 0)).setCell (p := ⟨a, 11, none⟩) (fun _ => rfl) (.int .u32 0)).setCell (p := ⟨a, 12, none⟩) (fun _ => rfl) (.bool false)).setCell (p := ⟨a, 13, none⟩) (fun _ => rfl) (.int .i64 0)).setCell (p := ⟨a, 14, none⟩) (fun _ => rfl) (.slice (some ⟨W2.heap.size, 0, none⟩) N N)).setCell (p := ⟨a, 15, none⟩) (fun _ => rfl) (.bool false))
  have hblk : Blk ((((((((((W2.setCell ⟨a, 6, none⟩ (.pointer (some ⟨v, 0, none⟩))).alloc (.cells (madeCells #[.int .u8 0] N) 5)).setCell ⟨a, 8, none⟩ (.int .i64 1)).setCell ⟨a, 9, none⟩ (.int .u32 0)).setCell ⟨a, 10, none⟩ (.int .u32 0)).setCell ⟨a, 11, none⟩ (.int .u32 0)).setCell ⟨a, 12, none⟩ (.bool false)).setCell ⟨a, 13, none⟩ (.int .i64 0)).setCell ⟨a, 14, none⟩ (.slice (some ⟨W2.heap.size, 0, none⟩) N N)).setCell ⟨a, 15, none⟩ (.bool false)) a 117 (hostCells { p := p, log := L, value := List.replicate p.out.toNat 0 } d0 v g (.slice (some ⟨W2.heap.size, 0, none⟩) N N)) := by
    have := (((((((((hb4.alloc (.cells (madeCells #[.int .u8 0] N) 5)).set_ 8 (.int .i64 1)).set_ 9 (.int .u32 0)).set_ 10 (.int .u32 0)).set_ 11 (.int .u32 0)).set_ 12 (.bool false)).set_ 13 (.int .i64 0)).set_ 14 (.slice (some ⟨W2.heap.size, 0, none⟩) N N)).set_ 15 (.bool false))
    simpa [hostCells, HN.out] using this
  have hz5 : ((((((((((W2.setCell ⟨a, 6, none⟩ (.pointer (some ⟨v, 0, none⟩))).alloc (.cells (madeCells #[.int .u8 0] N) 5)).setCell ⟨a, 8, none⟩ (.int .i64 1)).setCell ⟨a, 9, none⟩ (.int .u32 0)).setCell ⟨a, 10, none⟩ (.int .u32 0)).setCell ⟨a, 11, none⟩ (.int .u32 0)).setCell ⟨a, 12, none⟩ (.bool false)).setCell ⟨a, 13, none⟩ (.int .i64 0)).setCell ⟨a, 14, none⟩ (.slice (some ⟨W2.heap.size, 0, none⟩) N N)).setCell ⟨a, 15, none⟩ (.bool false)).heap.size = W2.heap.size + 1 := by simp [World.setCell]
  generalize ((((((((((W2.setCell ⟨a, 6, none⟩ (.pointer (some ⟨v, 0, none⟩))).alloc (.cells (madeCells #[.int .u8 0] N) 5)).setCell ⟨a, 8, none⟩ (.int .i64 1)).setCell ⟨a, 9, none⟩ (.int .u32 0)).setCell ⟨a, 10, none⟩ (.int .u32 0)).setCell ⟨a, 11, none⟩ (.int .u32 0)).setCell ⟨a, 12, none⟩ (.bool false)).setCell ⟨a, 13, none⟩ (.int .i64 0)).setCell ⟨a, 14, none⟩ (.slice (some ⟨W2.heap.size, 0, none⟩) N N)).setCell ⟨a, 15, none⟩ (.bool false)) = W5 at *
  go_ret
  have ha := (hfb a (.inl rfl)).2
  have hs1 := hz1.out
  have hs2 := hbe2.size
  simp [World.setCell] at hs2
  have hkA : Keep (fun x => x = a) W1 W5 := (((Keep.refl (fun x => x = a) W1).setCell (p := ⟨a, 5, none⟩) (fun _ => rfl) _).andThen (S' := fun _ => False) (Keep.of_below hbe2) (fun _ _ h => h.elim)).andThen hkB (fun _ _ h => h)
  have hk : Keep (fun x => x = a) w W5 := (Keep.of_below hbe1).andThen hkA (fun _ _ h => h)
  have hd0 := Hd0.out
  have hsz1 : (W1.setCell ⟨a, 5, none⟩ (.pointer (some ⟨d0, 0, none⟩))).heap.size = W1.heap.size := by simp [World.setCell]
  rw [hsz1] at hv2 hv3
  have hgs : ∀ x, w.heap.size ≤ x → x < W5.heap.size → grow (fun x => x = a ∨ FL x) w W5 x := fun x h1 h2 => .inr ⟨h1, h2⟩
  refine ⟨rfl, ⟨d0, v, g, .slice (some ⟨W2.heap.size, 0, none⟩) N N, (fun x => W1.heap.size ≤ x ∧ x < W2.heap.size), FL, {
    blk := hblk
    dog := Blk.keep hd1 hkA (by omega)
    valve := hv2.keep hkB (fun x hx e => by omega) (fun _ h => h)
    log := hl.keep hk (fun x hx e => hla (e ▸ hx)) (fun _ h => h)
    value := by
      have := own_base (ownsRow_keep hmade hkM (fun x hx e => by simp [Value.ownBlock] at hx; omega)) (Nat.zero_le _)
      simpa [HN.out] using this
    fa := .inl (.inl rfl)
    fd := hgs _ (by omega) (by omega)
    fV := fun x hx => hgs _ (by omega) (by omega)
    fL := fun x hx => .inl (.inr hx)
    fx := fun x hx => by
      simp [Value.ownBlock] at hx
      exact hgs _ (by omega) (by omega)
    fb := grow_fb hfb (by have := hfb a (.inl rfl); omega) hk.size
    va := ⟨by omega, by omega⟩
    la := ⟨hla, fun h => by have := (hfb d0 (.inr h)).2; omega⟩
    vl := fun x hx h => by have := (hfb x (.inr h)).2; omega
    xv := fun x hx => by
      simp [Value.ownBlock] at hx
      exact ⟨by omega, fun h => (by have := (hfb x (.inr h)).2; omega), by omega, by omega⟩ }⟩, hk⟩
end Go.Proofs.YtdiogamcjihejaaGreat
