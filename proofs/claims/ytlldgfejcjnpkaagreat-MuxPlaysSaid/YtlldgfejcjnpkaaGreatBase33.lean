/- The base of the laws, part 33: contracts and plain lemmas, no statement. -/
import Derived.Test.YtlldgfejcjnpkaaGreatBase21
import Derived.Test.YtlldgfejcjnpkaaGreatBase31
import Derived.Test.YtlldgfejcjnpkaaGreatBase32
set_option linter.unusedVariables false
/- Both devices alike, in one memory: what the laws' walks carry. -/
namespace Go.Proofs.YtlldgfejcjnpkaaGreat
open Go.RowKit
set_option maxHeartbeats 10000000
set_option maxRecDepth 100000

theorem stepD_inv {m : DevM} (h : m.Inv) (o : OpM) : (stepD m o).Inv := by
  unfold stepD
  split
  · exact h.receive _
  · split
    · exact h.tick _
    split
    · exact h.write _ _
    split
    · exact h.ack
    split
    · exact h.reset _
    split
    · exact h.arm _
    · exact h
theorem dreceive_log (m : DevM) (l : List UInt8) : (m.receive l).1.log.length ≤ m.log.length + 4 := by
  have := dread_log m l
  unfold DevM.receive
  split
  · simp
  · simp only
    split
    · omega
    · simp [noteM]; omega
theorem dtick_log (m : DevM) (n : Int) : (m.tick n).1.log.length ≤ m.log.length + 1 := by
  unfold DevM.tick
  split
  · simp
  split
  · simp
  · simp only
    split
    · exact dtrip_log _ _
    · simp
theorem dreset_log (d : DevM) (n : Int) : (d.reset n).1.log = d.log := by
  unfold DevM.reset
  split
  · rfl
  · simp only
    generalize openM _ _ = r
    obtain ⟨m, c, e⟩ := r
    cases c <;> rfl
theorem stepD_log (m : DevM) (o : OpM) : (stepD m o).log.length ≤ m.log.length + 4 := by
  unfold stepD
  split
  · exact dreceive_log m _
  · split
    · have := dtick_log m o.n; omega
    split
    · unfold DevM.write
      split
      · simp
      · split <;> simp
    split
    · unfold DevM.ack
      split
      · simp
      · split <;> simp
    split
    · rw [dreset_log]; omega
    split <;> simp
theorem rmemNew16_any (w : World) : Calls Tryz.prog 11 #[.int .i64 16] w fun e w' => ∃ mb, e = .returned (.tuple #[.pointer (some ⟨mb, 0, none⟩), .int .i64 0]) ∧ RMemIs w' mb mem16 (fun x => w.heap.size ≤ x ∧ x < w'.heap.size) ∧ Below w.heap.size w w' := by
  have hmk : ∀ W : World, (Instr.makeSlice 22 (.int .i64 16) (.int .i64 16)).run Tryz.prog W = .ok (.slice (some ⟨W.heap.size, 0, none⟩) 16 16) (W.alloc (.cells (madeCells #[.int .u8 0] 16) 5)) := run_make_row' (P := Tryz.prog) 22 5 (.int .u8 0) 1 Tryz.underlying22 byte_info rfl .i64 .i64 16 (by omega) (by omega)
  have hmade := own_made w 16 (by omega)
  go_enter Tryz.func11, Tryz.ntmps11
  go_wp2_with fail
  refine bodyPost_ret (v := .tuple #[.pointer (some ⟨w.heap.size + 1, 0, none⟩), .int .i64 0]) (by simp [results, Tryz.results11, go_sem]) rfl ⟨w.heap.size + 1, rfl, ⟨.slice (some ⟨w.heap.size, 0, none⟩) 16 16, 0, ?_⟩, ((Below.refl _ w).alloc (Nat.le_refl _) _).alloc (by simp) _⟩
  exact {
    blk := Blk.new' (w.alloc _) _ _ (by simp)
    bytes := own_base (own_below hmade ((Below.refl _ _).alloc (Nat.le_refl _) _)) (Nat.zero_le _)
    fb := by simp
    fr := fun x hx => by simp [Value.ownBlock] at hx; simp; omega
    len := by decide
    left := by simp [mem16] }
/-- Both devices stand alike; all that is theirs lies in T. -/
structure TwoD (B : Nat) (w : World) (a ma b mb : Nat) (m : DevM) (T : Nat → Prop) : Prop where
  pair : ∃ F1 F2, PairD B w a ma b mb m m F1 F2 ∧ ∀ x, F1 x ∨ F2 x → T x
  inv : m.Inv
  lt : ∀ x, T x → x < w.heap.size
section
variable {B a ma b mb : Nat} {w w' : World} {m : DevM} {T T' : Nat → Prop}
theorem TwoD.below (h : TwoD B w a ma b mb m T) (hb : Below w.heap.size w w') : TwoD B w' a ma b mb m T := by
  obtain ⟨F1, F2, hP, hT⟩ := h.pair
  exact ⟨⟨F1, F2, hP.below hb, hT⟩, h.inv, fun x hx => by have := h.lt x hx; have := hb.size; omega⟩
theorem TwoD.Ble (h : TwoD B w a ma b mb m T) : B ≤ w.heap.size := by
  obtain ⟨F1, F2, hP, _⟩ := h.pair
  exact hP.dev.Ble
/-- The two memories, made one behind the other. -/
structure Mems (B : Nat) (w : World) (ma mb : Nat) (m1 m2 : MemM) (F1 F2 : Nat → Prop) : Prop where
  m1 : MemIs w ma m1 F1
  m2 : RMemIs w mb m2 F2
  lo1 : ∀ x, F1 x → B ≤ x ∧ x < w.heap.size
  lo2 : ∀ x, F2 x → B ≤ x ∧ x < w.heap.size
  dj : ∀ x, F1 x → ¬ F2 x
/-- .. the program's device over the one: the other memory stays. -/
theorem Mems.dev {F1 F2 F1' : Nat → Prop} {M1 M2 : MemM} (h : Mems B w ma mb M1 M2 F1 F2) (hk : Keep F1 w w') (hs : ∀ x, F1' x → F1 x ∨ w.heap.size ≤ x) :
    RMemIs w' mb M2 F2 ∧ (∀ x, F2 x → B ≤ x ∧ x < w'.heap.size) ∧ ∀ x, F1' x → ¬ F2 x :=
  ⟨h.m2.keep hk (fun x hx h1 => h.dj x h1 hx) (fun _ h => h), fun x hx => by have := h.lo2 x hx; have := hk.size; omega, fun x hx h2 => (hs x hx).elim (fun h1 => h.dj x h1 h2) (fun h1 => by have := (h.lo2 x h2).2; omega)⟩
/-- .. and the reference's over the other. -/
theorem two_newD {F1 F2 : Nat → Prop} (hi : m.Inv) (hI : DevIs B w a ma m F1) (hdj : ∀ x, F1 x → ¬ F2 x) (hR : RDIs B w' b mb m (grow F2 w w')) (hk : Keep F2 w w') : TwoD B w' a ma b mb m (fun x => F1 x ∨ grow F2 w w' x) where
  pair := ⟨F1, grow F2 w w', ⟨hI.keepS hk (fun x hx h2 => hdj x hx h2), hR, fun x hx h2 => h2.elim (hdj x hx) (fun h2 => by have := (hI.lo x hx).2; omega)⟩, fun _ h => h⟩
  inv := hi
  lt := fun x hx => by
    rcases hx with hx | hx
    · have := (hI.lo x hx).2; have := hk.size; omega
    · exact (hR.lo x hx).2
/-- The program's device has received, the reference's not yet. -/
structure HalfD (B : Nat) (w : World) (a ma b mb : Nat) (m1 m : DevM) (T T' : Nat → Prop) : Prop where
  pair : ∃ F1 F2, PairD B w a ma b mb m1 m F1 F2 ∧ (∀ x, F1 x → T' x) ∧ ∀ x, F2 x → T x
  inv1 : m1.Inv
  inv : m.Inv
  lt : ∀ x, T' x → x < w.heap.size
  sub : ∀ x, T x → T' x
theorem HalfD.below {m1 : DevM} (h : HalfD B w a ma b mb m1 m T T') (hb : Below w.heap.size w w') : HalfD B w' a ma b mb m1 m T T' := by
  obtain ⟨F1, F2, hP, hT, hT2⟩ := h.pair
  exact ⟨⟨F1, F2, hP.below hb, hT, hT2⟩, h.inv1, h.inv, fun x hx => by have := h.lt x hx; have := hb.size; omega, h.sub⟩
end
end Go.Proofs.YtlldgfejcjnpkaaGreat
