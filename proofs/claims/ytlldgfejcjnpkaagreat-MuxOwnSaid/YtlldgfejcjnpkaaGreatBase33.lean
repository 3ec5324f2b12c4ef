/- The base of the laws, part 33: contracts and plain lemmas, no statement. -/
import Derived.Test.YtlldgfejcjnpkaaGreatBase21
import Derived.Test.YtlldgfejcjnpkaaGreatBase31
import Derived.Test.YtlldgfejcjnpkaaGreatBase32
set_option linter.unusedVariables false
/- Both devices alike, in one memory: what the laws' walks carry. -/
namespace Go.Proofs.YtlldgfejcjnpkaaGreat
open Go.RowKit
set_option maxHeartbeats 10000000
set_option maxRecDepth 100000

theorem stepD_inv {m : DevM} (h : m.Inv) (o : OpM) : (stepD m o).Inv := by
  unfold stepD
  split
  · exact h.receive _
  · split
    · exact h.tick _
    split
    · exact h.write _ _
    split
    · exact h.ack
    split
    · exact h.reset _
    split
    · exact h.arm _
    · exact h
theorem dreceive_log (m : DevM) (l : List UInt8) : (m.receive l).1.log.length ≤ m.log.length + 4 := by
  have := dread_log m l
  unfold DevM.receive
  split
  · simp
  · simp only
    split
    · omega
    · simp [noteM]; omega
theorem dtick_log (m : DevM) (n : Int) : (m.tick n).1.log.length ≤ m.log.length + 1 := by
  unfold DevM.tick
  split
  · simp
  split
  · simp
  · simp only
    split
    · exact dtrip_log _ _
    · simp
theorem dreset_log (d : DevM) (n : Int) : (d.reset n).1.log = d.log := by
  unfold DevM.reset
  split
  · rfl
  · simp only
    generalize openM _ _ = r
    obtain ⟨m, c, e⟩ := r
    cases c <;> rfl
theorem stepD_log (m : DevM) (o : OpM) : (stepD m o).log.length ≤ m.log.length + 4 := by
  unfold stepD
  split
  · exact dreceive_log m _
  · split
    · have := dtick_log m o.n; omega
    split
    · unfold DevM.write
      split
      · simp
      · split <;> simp
    split
    · unfold DevM.ack
      split
      · simp
      · split <;> simp
    split
    · rw [dreset_log]; omega
    split <;> simp
theorem rmemNew16_any (w : World) : Calls Tryz.prog 11 #[.int .i64 16] w fun e w' => ∃ mb, e = .returned (.tuple #[.pointer (some ⟨mb, 0, none⟩), .int .i64 0]) ∧ RMemIs w' mb mem16 (fun x => w.heap.size ≤ x ∧ x < w'.heap.size) ∧ Below w.heap.size w w' := by
  have hmk : ∀ W : World, (Instr.makeSlice 22 (.int .i64 16) (.int .i64 16)).run Tryz.prog W = .ok (.slice (some ⟨W.heap.size, 0, none⟩) 16 16) (W.alloc (.cells (madeCells #[.int .u8 0] 16) 5)) := run_make_row' (P := Tryz.prog) 22 5 (.int .u8 0) 1 Tryz.underlying22 byte_info rfl .i64 .i64 16 (by omega) (by omega)
  have hmade := own_made w 16 (by omega)
  go_enter Tryz.func11, Tryz.ntmps11
  go_wp2_with fail
  refine bodyPost_ret (v := .tuple #[.pointer (some ⟨w.heap.size + 1, 0, none⟩), .int .i64 0]) (by simp [results, Tryz.results11, go_sem]) rfl ⟨w.heap.size + 1, rfl, ⟨.slice (some ⟨w.heap.size, 0, none⟩) 16 16, 0, ?_⟩, ((Below.refl _ w).alloc (Nat.le_refl _) _).alloc (by simp) _⟩
  exact {
    blk := Blk.new' (w.alloc _) _ _ (by simp)
    bytes := own_base (own_below hmade ((Below.refl _ _).alloc (Nat.le_refl _) _)) (Nat.zero_le _)
    fb := by simp
    fr := fun x hx => by simp [Value.ownBlock] at hx; simp; omega
    len := by decide
    left := by simp [mem16] }
/-- A new device of the reference's over a new memory, at the small set. -/
theorem rdFirst_any (mb : Nat) (F : Nat → Prop) (B : Nat) (mx : Int) (w : World) (hM : RMemIs w mb mem16 F) (hlo : ∀ x, F x → B ≤ x ∧ x < w.heap.size) (hmx : 0 < mx) :
    Calls Tryz.prog 14 #[parVal smallM, .pointer (some ⟨mb, 0, none⟩), .int .u32 mx] w fun e w' => ∃ b, e = .returned (.tuple #[.pointer (some ⟨b, 0, none⟩), .int .i64 0]) ∧ RDIs B w' b mb (DevM.first mx) (grow F w w') ∧ Keep F w w' := by
  refine (rdNew_any B mb smallM mem16 F mx w small_ok hM hlo).mono ?_
  have hn : DevM.new smallM mem16 mx = (mem16, some (DevM.first mx), 0) := DevM.new_small mx (by omega)
  rw [hn]
  rintro e w' ⟨hk, b, he, hI⟩
  exact ⟨b, he, hI, hk⟩
/-- Both devices stand alike; all that is theirs lies in T. -/
structure TwoD (B : Nat) (w : World) (a ma b mb : Nat) (m : DevM) (T : Nat → Prop) : Prop where
  pair : ∃ F1 F2, PairD B w a ma b mb m m F1 F2 ∧ ∀ x, F1 x ∨ F2 x → T x
  inv : m.Inv
  lt : ∀ x, T x → x < w.heap.size
section
variable {B a ma b mb : Nat} {w w' : World} {m : DevM} {T T' : Nat → Prop}
theorem TwoD.below (h : TwoD B w a ma b mb m T) (hb : Below w.heap.size w w') : TwoD B w' a ma b mb m T := by
  obtain ⟨F1, F2, hP, hT⟩ := h.pair
  exact ⟨⟨F1, F2, hP.below hb, hT⟩, h.inv, fun x hx => by have := h.lt x hx; have := hb.size; omega⟩
theorem TwoD.Ble (h : TwoD B w a ma b mb m T) : B ≤ w.heap.size := by
  obtain ⟨F1, F2, hP, _⟩ := h.pair
  exact hP.dev.Ble
/-- The two memories, made one behind the other. -/
structure Mems (B : Nat) (w : World) (ma mb : Nat) (m1 m2 : MemM) (F1 F2 : Nat → Prop) : Prop where
  m1 : MemIs w ma m1 F1
  m2 : RMemIs w mb m2 F2
  lo1 : ∀ x, F1 x → B ≤ x ∧ x < w.heap.size
  lo2 : ∀ x, F2 x → B ≤ x ∧ x < w.heap.size
  dj : ∀ x, F1 x → ¬ F2 x
/-- .. the program's device over the one: the other memory stays. -/
theorem Mems.dev {F1 F2 F1' : Nat → Prop} {M1 M2 : MemM} (h : Mems B w ma mb M1 M2 F1 F2) (hk : Keep F1 w w') (hs : ∀ x, F1' x → F1 x ∨ w.heap.size ≤ x) :
    RMemIs w' mb M2 F2 ∧ (∀ x, F2 x → B ≤ x ∧ x < w'.heap.size) ∧ ∀ x, F1' x → ¬ F2 x :=
  ⟨h.m2.keep hk (fun x hx h1 => h.dj x h1 hx) (fun _ h => h), fun x hx => by have := h.lo2 x hx; have := hk.size; omega, fun x hx h2 => (hs x hx).elim (fun h1 => h.dj x h1 h2) (fun h1 => by have := (h.lo2 x h2).2; omega)⟩
/-- .. and the reference's over the other. -/
theorem two_newD {F1 F2 : Nat → Prop} (hi : m.Inv) (hI : DevIs B w a ma m F1) (hdj : ∀ x, F1 x → ¬ F2 x) (hR : RDIs B w' b mb m (grow F2 w w')) (hk : Keep F2 w w') : TwoD B w' a ma b mb m (fun x => F1 x ∨ grow F2 w w' x) where
  pair := ⟨F1, grow F2 w w', ⟨hI.keepS hk (fun x hx h2 => hdj x hx h2), hR, fun x hx h2 => h2.elim (hdj x hx) (fun h2 => by have := (hI.lo x hx).2; omega)⟩, fun _ h => h⟩
  inv := hi
  lt := fun x hx => by
    rcases hx with hx | hx
    · have := (hI.lo x hx).2; have := hk.size; omega
    · exact (hR.lo x hx).2
/-- One call of the law's. -/
theorem two_stepD (h : TwoD B w a ma b mb m T) (hlen : m.log.length < 1073741600) (o : OpM) (A : Option Addr) (c : Nat) (ho : o.Ok) (hr : Reads w w.heap.size 1 A o.data.length (u8c o.data)) (hdj : 0 < o.data.length → ∀ ad, A = some ad → ad.block < B ∨ ¬ T ad.block) (hoc : o.data.length ≤ c) (hod : o.data.length ≤ 140737488351232) :
    Calls Tryz.prog 24 #[.pointer (some ⟨a, 0, none⟩), .pointer (some ⟨ma, 0, none⟩), .pointer (some ⟨b, 0, none⟩), opVal o (.slice A o.data.length c)] w fun e w' => e = .returned (.bool true) ∧ TwoD B w' a ma b mb (stepD m o) (grow T w w') ∧ Keep T w w' ∧ Below B w w' := by
  obtain ⟨F1, F2, hP, hT⟩ := h.pair
  refine (l13step_any B a ma b mb m F1 F2 o A c w hP h.inv hlen ho hr (fun hn ad e => ?_) hoc hod).mono ?_
  · rcases hdj hn ad e with h1 | h1
    · exact ⟨fun hx => by have := (hP.dev.lo _ hx).1; omega, fun hx => by have := (hP.ref.lo _ hx).1; omega⟩
    · exact ⟨fun hx => h1 (hT _ (.inl hx)), fun hx => h1 (hT _ (.inr hx))⟩
  rintro e w' ⟨he, F1', F2', hR⟩
  refine ⟨he, ⟨⟨F1', F2', hR.pair, ?_⟩, stepD_inv h.inv o, grow_lt h.lt hR.keep.size⟩, hR.keep.mono (fun x _ hx => hT x hx), hR.belowB hP⟩
  rintro x (hx | hx)
  · rcases hR.sub1 x hx with h1 | h1
    · exact .inl (hT x (.inl h1))
    · exact .inr ⟨h1, (hR.pair.dev.lo x hx).2⟩
  · rcases hR.sub2 x hx with h1 | h1
    · exact .inl (hT x (.inr h1))
    · exact .inr ⟨h1, (hR.pair.ref.lo x hx).2⟩
theorem two_frameD (h : TwoD B w a ma b mb m T) (o : OpM) (A : Option Addr) (c Br : Nat) (ho : o.Ok) (hr : Reads w Br 1 A o.data.length (u8c o.data)) (hBr : Br ≤ w.heap.size) (hoc : o.data.length ≤ c) (hod : o.data.length ≤ 140737488351232) :
    Calls Tryz.prog 19 #[.pointer (some ⟨b, 0, none⟩), opVal o (.slice A o.data.length c)] w fun e w' => ∃ v, e = .returned (.tuple #[v, .bool (frameD m o).isSome]) ∧ (frameD m o = none → v = .slice none 0 0) ∧ (∀ f, frameD m o = some f → w'.ownsRow w.heap.size 5 1 v f.length (u8c f)) ∧ Below w.heap.size w w' := by
  obtain ⟨F1, F2, hP, _⟩ := h.pair
  exact l13Frame_any B b mb m F2 o A c Br w hP.ref h.inv ho hr hBr hoc hod
theorem two_seeD (h : TwoD B w a ma b mb m T) : Calls Tryz.prog 22 #[.pointer (some ⟨a, 0, none⟩)] w fun e w' => ∃ x, e = .returned (endVal m.see x) ∧ w'.ownsRow w.heap.size 5 1 x m.see.out.length (u8c m.see.out) ∧ Below w.heap.size w w' := by
  obtain ⟨F1, F2, hP, _⟩ := h.pair
  exact devSee_any B a ma m F1 w hP.dev h.inv
/-- The program's device has received, the reference's not yet. -/
structure HalfD (B : Nat) (w : World) (a ma b mb : Nat) (m1 m : DevM) (T T' : Nat → Prop) : Prop where
  pair : ∃ F1 F2, PairD B w a ma b mb m1 m F1 F2 ∧ (∀ x, F1 x → T' x) ∧ ∀ x, F2 x → T x
  inv1 : m1.Inv
  inv : m.Inv
  lt : ∀ x, T' x → x < w.heap.size
  sub : ∀ x, T x → T' x
theorem HalfD.below {m1 : DevM} (h : HalfD B w a ma b mb m1 m T T') (hb : Below w.heap.size w w') : HalfD B w' a ma b mb m1 m T T' := by
  obtain ⟨F1, F2, hP, hT, hT2⟩ := h.pair
  exact ⟨⟨F1, F2, hP.below hb, hT, hT2⟩, h.inv1, h.inv, fun x hx => by have := h.lt x hx; have := hb.size; omega, h.sub⟩
theorem two_receiveD (h : TwoD B w a ma b mb m T) (hlen : m.log.length < 1073741600) (n : Nat) (l : List UInt8) (A : Option Addr) (c Br : Nat) (hr : Reads w Br 1 A n (u8c l)) (hB : Br ≤ w.heap.size) (hc : n ≤ c) (hn : n ≤ 140737488351232) :
    Calls Tryz.prog 20 #[.pointer (some ⟨a, 0, none⟩), .slice A n c] w fun e w' => ∃ x T', e = .returned (.tuple #[x, .int .i64 (m.receive l).2.2]) ∧ w'.ownsRow w.heap.size 5 1 x (m.receive l).2.1.length (u8c (m.receive l).2.1) ∧ HalfD B w' a ma b mb (m.receive l).1 m T T' ∧ (∀ y, T' y → grow T w w' y) ∧ (∀ y, x.ownBlock = some y → ¬ T' y) ∧ Keep T w w' ∧ Below B w w' := by
  obtain ⟨F1, F2, hP, hT⟩ := h.pair
  refine (devReceive_any B a ma m F1 A n c Br l w hP.dev h.inv (by omega) hr hB hc hn).mono ?_
  rintro e w' ⟨x, he, hx, t⟩
  obtain ⟨F', hI', hs', hx'⟩ := t.ap
  have hsz := t.too.keep.size
  refine ⟨x, fun y => F' y ∨ T y, he, hx, ⟨⟨F', F2, ⟨hI', hP.ref.keepS t.too.keep (fun y hy h1 => hP.dj y h1 hy), fun y hy h2 => (hs' y hy).elim (fun h1 => hP.dj y h1 h2) (fun h1 => by have := (hP.ref.lo y h2).2; omega)⟩, fun y hy => .inl hy, fun y hy => hT y (.inr hy)⟩, h.inv.receive l, h.inv, fun y hy => ?_, fun y hy => .inr hy⟩, fun y hy => ?_, fun y hy hh => ?_, t.too.keep.mono (fun y _ hy => hT y (.inl hy)), DevTo.belowB hP.dev t.too⟩
  · rcases hy with hy | hy
    · exact (hI'.lo y hy).2
    · have := h.lt y hy; omega
  · rcases hy with hy | hy
    · exact (hs' y hy).imp (fun h1 => hT y (.inl h1)) id
    · exact .inl hy
  · rcases hh with hh | hh
    · exact hx' y hy hh
    · have h1 := h.lt y hh; have h2 := (hx.lt y hy).1; omega
/-- .. the reference's too; what the program's device answered stays. -/
theorem half_receiveD {m : DevM} (n : Nat) (l : List UInt8) (h : HalfD B w a ma b mb (m.receive l).1 m T T') (hlen : m.log.length < 1073741600) (A : Option Addr) (c Br : Nat) (hr : Reads w Br 1 A n (u8c l)) (hB : Br ≤ w.heap.size) (hc : n ≤ c) :
    Calls Tryz.prog 21 #[.pointer (some ⟨b, 0, none⟩), .slice A n c] w fun e w' => ∃ x T2, e = .returned (.tuple #[x, .int .i64 (m.receive l).2.2]) ∧ w'.ownsRow w.heap.size 5 1 x (m.receive l).2.1.length (u8c (m.receive l).2.1) ∧ TwoD B w' a ma b mb (m.receive l).1 T2 ∧ (∀ y, T2 y → grow T' w w' y) ∧ (∀ y, x.ownBlock = some y → ¬ T2 y) ∧ Keep T w w' ∧ Below B w w' := by
  obtain ⟨F1, F2, hP, hT, hT2⟩ := h.pair
  refine (rdReceive_any B b mb m F2 A n c Br l w hP.ref h.inv (by omega) hr hB hc).mono ?_
  rintro e w' ⟨x, he, hx, t⟩
  obtain ⟨F', hI', hs', hx'⟩ := t.ap
  have hsz := t.too.keep.size
  refine ⟨x, fun y => F' y ∨ T' y, he, hx, ⟨⟨F1, F', ⟨hP.dev.keepS t.too.keep (fun y hy h2 => hP.dj y hy h2), hI', fun y hy h2 => (hs' y h2).elim (fun h2 => hP.dj y hy h2) (fun h2 => by have := (hP.dev.lo y hy).2; omega)⟩, fun y hy => hy.elim (fun hy => .inr (hT y hy)) .inl⟩, h.inv1, fun y hy => ?_⟩, fun y hy => ?_, fun y hy hh => ?_, t.too.keep.mono (fun y _ hy => hT2 y hy), RDTo.belowB hP.ref t.too⟩
  · rcases hy with hy | hy
    · exact (hI'.lo y hy).2
    · have := h.lt y hy; omega
  · rcases hy with hy | hy
    · exact (hs' y hy).imp (fun h1 => h.sub y (hT2 y h1)) id
    · exact .inl hy
  · rcases hh with hh | hh
    · exact hx' y hy hh
    · have h1 := h.lt y hh; have h2 := (hx.lt y hy).1; omega
end
end Go.Proofs.YtlldgfejcjnpkaaGreat
