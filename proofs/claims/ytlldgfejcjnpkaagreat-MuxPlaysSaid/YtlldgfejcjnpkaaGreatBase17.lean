/- The base of the laws, part 17: contracts and plain lemmas, no statement. -/
import Derived.Test.YtlldgfejcjnpkaaGreatBase11
import Derived.Test.YtlldgfejcjnpkaaGreatBase14
import Derived.Test.YtlldgfejcjnpkaaGreatBase15
import Derived.Test.YtlldgfejcjnpkaaGreatBase16
import Derived.Deep.RegionHeld3
import Derived.Deep.RegionHeld
set_option linter.unusedVariables false
/- The reference's device in memory (parapetref13): its blocks are told apart by a colour each. -/
namespace Go.Proofs.YtlldgfejcjnpkaaGreat
open Go.RowKit
set_option maxHeartbeats 4000000
set_option maxRecDepth 100000

def rdPre (m : DevM) (mb cb : Nat) (lg : Value) : List Value := [.int .u32 m.p.code, .int .i64 m.p.out, .int .i64 m.p.inn, .int .i64 m.p.watch, .int .u32 m.p.count, .pointer (some ⟨mb, 0, none⟩), .int .u32 m.max, .pointer (some ⟨cb, 0, none⟩), lg]
def rdPost (m : DevM) (val : Value) : List Value := [.int .i64 m.state, .int .u32 m.session, .int .u32 m.number, .int .u32 m.sent, .int .i64 m.odd, val, .bool m.hold]
def rdCells (m : DevM) (mb cb : Nat) (lg vv val : Value) : Array Value :=
  #[.int .u32 m.p.code, .int .i64 m.p.out, .int .i64 m.p.inn, .int .i64 m.p.watch, .int .u32 m.p.count, .pointer (some ⟨mb, 0, none⟩), .int .u32 m.max, .pointer (some ⟨cb, 0, none⟩), lg, .int .i64 m.p.watch, .int .i64 m.since,
    .int .i64 m.p.out, .bool m.valve.running, .bool m.valve.held, .bool m.valve.fresh, .int .i64 m.valve.latched, vv, .bool m.valve.value.isSome,
    .int .i64 m.state, .int .u32 m.session, .int .u32 m.number, .int .u32 m.sent, .int .i64 m.odd, val, .bool m.hold]
theorem rd_dog (m : DevM) (mb cb : Nat) (lg vv val : Value) : rdCells m mb cb lg vv val = seg (rdPre m mb cb lg) (rdogCs m.p.watch m.since) (rvCs m.p.out m.valve vv ++ rdPost m val) := rfl
theorem rd_valve (m : DevM) (mb cb : Nat) (lg vv val : Value) : rdCells m mb cb lg vv val = seg (rdPre m mb cb lg ++ rdogCs m.p.watch m.since) (rvCs m.p.out m.valve vv) (rdPost m val) := rfl
/-- The reference's cell over the memory at mb. -/
def RCellIs (w : World) (c mb : Nat) (k : CellM) : Prop := Blk w c 198 #[.pointer (some ⟨mb, 0, none⟩), .int .u32 k.max, .int .u32 k.value, .bool k.dead]
/-- Colours: 0 the device's block, 1 its log's row, 2 its valve's value, 3 its value, 5 its memory, 6 its cell. -/
structure RDAt (B : Nat) (w : World) (b mb : Nat) (m : DevM) (κ : Nat → Option Nat) (A : Option Addr) (c : Nat) (vv val : Value) (cb : Nat) : Prop where
  blk : Blk w b 95 (rdCells m mb cb (.slice A m.log.length c) vv val)
  log : w.ownsRow 0 202 4 (.slice A m.log.length c) m.log.length (recsCells m.log)
  vval : RVal w vv m.valve.value
  value : w.ownsRow 0 5 1 val m.value.length (u8c m.value)
  mem : RMemIs w mb m.m (Of κ 5)
  cell : RCellIs w cb mb m.cell
  kb : Of κ 0 b
  kl : ∀ x, (Value.slice A m.log.length c).ownBlock = some x → Of κ 1 x
  kv : ∀ x, vv.ownBlock = some x → Of κ 2 x
  kx : ∀ x, val.ownBlock = some x → Of κ 3 x
  kc : Of κ 6 cb
  lo : ∀ x, κ x ≠ none → B ≤ x ∧ x < w.heap.size
/-- A device of the reference's whose blocks lie in F, from B on. -/
def RDIs (B : Nat) (w : World) (b mb : Nat) (m : DevM) (F : Nat → Prop) : Prop := (∃ κ A c vv val cb, RDAt B w b mb m κ A c vv val cb ∧ ∀ x, κ x ≠ none → F x) ∧ ∀ x, F x → B ≤ x ∧ x < w.heap.size
/-- What a call on it leaves. -/
structure RDTo (B : Nat) (w : World) (b mb : Nat) (m : DevM) (F : Nat → Prop) (w' : World) : Prop where
  is_ : RDIs B w' b mb m (grow F w w')
  keep : Keep F w w'
section
variable {B : Nat} {w w' w1 w2 : World} {b mb cb cb' : Nat} {m m' m1 m2 : DevM} {κ κ' : Nat → Option Nat} {A A' : Option Addr} {c c' : Nat} {vv vv' val val' : Value} {F F' S : Nat → Prop}
theorem RDAt.inF (h : RDAt B w b mb m κ A c vv val cb) {t x : Nat} (hx : Of κ t x) : B ≤ x ∧ x < w.heap.size := h.lo x (by rw [show κ x = some t from hx]; simp)
theorem RDAt.Ble (h : RDAt B w b mb m κ A c vv val cb) : B ≤ w.heap.size := by have := h.inF h.kb; omega
theorem RDAt.keepS (h : RDAt B w b mb m κ A c vv val cb) (hk : Keep S w w') (hS : ∀ x, κ x ≠ none → ¬ S x) : RDAt B w' b mb m κ A c vv val cb :=
  have hS' : ∀ t x, Of κ t x → ¬ S x := fun t x hx => hS x (by rw [show κ x = some t from hx]; simp)
  { blk := h.blk.keep hk (hS' _ _ h.kb)
    log := ownsRow_keep h.log hk (fun x hx => hS' _ _ (h.kl x hx))
    vval := h.vval.keep hk (fun x hx => hS' _ _ (h.kv x hx))
    value := ownsRow_keep h.value hk (fun x hx => hS' _ _ (h.kx x hx))
    mem := h.mem.keep hk (hS' _) (fun _ h => h)
    cell := Blk.keep h.cell hk (hS' _ _ h.kc)
    kb := h.kb
    kl := h.kl
    kv := h.kv
    kx := h.kx
    kc := h.kc
    lo := fun x hx => by have := h.lo x hx; have := hk.size; omega }
theorem RDAt.below (h : RDAt B w b mb m κ A c vv val cb) (hb : Below w.heap.size w w') : RDAt B w' b mb m κ A c vv val cb := h.keepS (S := fun _ => False) (Keep.of_below hb) (fun _ _ h => h)
theorem RDAt.drew (h : RDAt B w b mb m κ A c vv val cb) : RDAt B w.drew b mb m κ A c vv val cb := h.keepS (S := fun _ => False) (Keep.refl _ w).drew (fun _ _ h => h)
theorem RDAt.drewN (h : RDAt B w b mb m κ A c vv val cb) (n : Nat) : RDAt B (w.drewN n) b mb m κ A c vv val cb := h.keepS (S := fun _ => False) ((Keep.refl _ w).drewN n) (fun _ _ h => h)
theorem RDAt.valveBlk (h : RDAt B w b mb m κ A c vv val cb) : Blk w b 95 (seg (rdPre m mb cb (.slice A m.log.length c) ++ rdogCs m.p.watch m.since) (rvCs m.p.out m.valve vv) (rdPost m val)) := h.blk
theorem RDAt.dogBlk (h : RDAt B w b mb m κ A c vv val cb) : Blk w b 95 (seg (rdPre m mb cb (.slice A m.log.length c)) (rdogCs m.p.watch m.since) (rvCs m.p.out m.valve vv ++ rdPost m val)) := h.blk
/-- Behind stores into its own block: the rows, the memory and the cell stay. -/
theorem RDAt.parts (h : RDAt B w b mb m κ A c vv val cb) (hk : Keep (fun x => x = b) w w') :
    w'.ownsRow 0 202 4 (.slice A m.log.length c) m.log.length (recsCells m.log) ∧ RVal w' vv m.valve.value ∧ w'.ownsRow 0 5 1 val m.value.length (u8c m.value) ∧ RMemIs w' mb m.m (Of κ 5) ∧ RCellIs w' cb mb m.cell :=
  have hS : ∀ t x, t ≠ 0 → Of κ t x → ¬ x = b := fun t x ht hx e => (hx.ne ht) (e ▸ h.kb)
  ⟨ownsRow_keep h.log hk (fun x hx => hS 1 x (by decide) (h.kl x hx)), h.vval.keep hk (fun x hx => hS 2 x (by decide) (h.kv x hx)), ownsRow_keep h.value hk (fun x hx => hS 3 x (by decide) (h.kx x hx)), h.mem.keep hk (fun x => hS 5 x (by decide)) (fun _ h => h), Blk.keep h.cell hk (hS 6 _ (by decide) h.kc)⟩
/-- Behind a store into its block. -/
theorem RDAt.upd (h : RDAt B w b mb m κ A c vv val cb) (hk : Keep (fun x => x = b) w w') (hs : w'.heap.size = w.heap.size) (hb : Blk w' b 95 (rdCells m' mb cb (.slice A m.log.length c) vv val)) (e1 : m'.log = m.log) (e2 : m'.valve.value = m.valve.value) (e3 : m'.value = m.value) (e4 : m'.m = m.m) (e5 : m'.cell = m.cell) :
    RDAt B w' b mb m' κ A c vv val cb :=
  have ⟨p1, p2, p3, p4, p5⟩ := h.parts hk
  { blk := by rw [e1]; exact hb
    log := by rw [e1]; exact p1
    vval := by rw [e2]; exact p2
    value := by rw [e3]; exact p3
    mem := by rw [e4]; exact p4
    cell := by rw [e5]; exact p5
    kb := h.kb
    kl := by rw [e1]; exact h.kl
    kv := h.kv
    kx := h.kx
    kc := h.kc
    lo := by rw [hs]; exact h.lo }
/-- Behind a call on the valve that empties it, or lets its value be. -/
theorem RDAt.onValve (h : RDAt B w b mb m κ A c vv val cb) {V' : ValveM} (hr : RvTo b 95 (rdPre m mb cb (.slice A m.log.length c) ++ rdogCs m.p.watch m.since) (rdPost m val) m.p.out w V' vv' w') (hv : (vv' = vv ∧ V'.value = m.valve.value) ∨ (vv' = .slice none 0 0 ∧ V'.value = none)) : RDAt B w' b mb { m with valve := V' } κ A c vv' val cb := by
  obtain ⟨hb, hk, hs⟩ := hr
  obtain ⟨p1, p2, p3, p4, p5⟩ := h.parts hk
  exact {
    blk := hb
    log := p1
    vval := by
      rcases hv with ⟨rfl, e⟩ | ⟨rfl, e⟩
      · simp only; rw [e]; exact p2
      · simp only; rw [e]; rfl
    value := p3
    mem := p4
    cell := p5
    kb := h.kb
    kl := h.kl
    kv := by
      rcases hv with ⟨rfl, _⟩ | ⟨rfl, _⟩
      · exact h.kv
      · intro x hx; simp [Value.ownBlock] at hx
    kx := h.kx
    kc := h.kc
    lo := by rw [hs]; exact h.lo }
/-- Behind a value taken. -/
theorem RDAt.onTake (h : RDAt B w b mb m κ A c vv val cb) {V' : ValveM}
    (hb : Blk w' b 95 (seg (rdPre m mb cb (.slice A m.log.length c) ++ rdogCs m.p.watch m.since) (rvCs m.p.out V' vv') (rdPost m val))) (hv : RVal w' vv' V'.value) (hk : Keep (fun x => x = b) w w') (hn : vv' = vv ∨ ∀ x, vv'.ownBlock = some x → w.heap.size ≤ x ∧ x < w'.heap.size) :
    RDAt B w' b mb { m with valve := V' } (paint κ 2 w w') A c vv' val cb := by
  obtain ⟨p1, p2, p3, p4, p5⟩ := h.parts hk
  exact {
    blk := hb
    log := p1
    vval := hv
    value := p3
    mem := p4.keep (S := fun _ => False) (Keep.refl _ _) (fun _ _ h => h) (fun x hx => paint_old hx h.lo)
    cell := p5
    kb := paint_old h.kb h.lo
    kl := fun x hx => paint_old (h.kl x hx) h.lo
    kv := fun x hx => by
      rcases hn with rfl | hn
      · exact paint_old (h.kv x hx) h.lo
      · exact paint_new (hn x hx).1 (hn x hx).2
    kx := fun x hx => paint_old (h.kx x hx) h.lo
    kc := paint_old h.kc h.lo
    lo := paint_lo h.lo h.Ble hk.size }
/-- The log's cell. -/
theorem RDAt.logIs (h : RDAt B w b mb m κ A c vv val cb) : LogIs w b 95 (rdCells m mb cb (.slice A m.log.length c) vv val) 8 m.log (fun x => (Value.slice A m.log.length c).ownBlock = some x) :=
  ⟨A, c, h.blk, rfl, h.log, fun _ h => h, by decide⟩
/-- Behind a note in the log. -/
theorem RDAt.onLog (h : RDAt B w b mb m κ A c vv val cb) {L' : List Rec} {v : Value} {FL : Nat → Prop} (hl : LogIs w' b 95 ((rdCells m mb cb (.slice A m.log.length c) vv val).setIfInBounds 8 v) 8 L' FL) (hFL : ∀ x, FL x → (Value.slice A m.log.length c).ownBlock = some x ∨ (w.heap.size ≤ x ∧ x < w'.heap.size)) (hk : Keep (fun x => (Value.slice A m.log.length c).ownBlock = some x ∨ x = b) w w') :
    ∃ A' c', RDAt B w' b mb { m with log := L' } (paint κ 1 w w') A' c' vv val cb := by
  obtain ⟨A', c', D⟩ := hl
  have e : v = .slice A' L'.length c' := by
    have := D.at_
    simpa [rdCells] using this
  subst e
  have hS : ∀ t x, t ≠ 0 → t ≠ 1 → Of κ t x → ¬ ((Value.slice A m.log.length c).ownBlock = some x ∨ x = b) := fun t x h0 h1 hx e => e.elim (fun e => (hx.ne h1) (h.kl x e)) (fun e => (hx.ne h0) (e ▸ h.kb))
  exact ⟨A', c', {
    blk := D.blk
    log := D.row
    vval := h.vval.keep hk (fun x hx => hS 2 x (by decide) (by decide) (h.kv x hx))
    value := ownsRow_keep h.value hk (fun x hx => hS 3 x (by decide) (by decide) (h.kx x hx))
    mem := h.mem.keep hk (fun x => hS 5 x (by decide) (by decide)) (fun x hx => paint_old hx h.lo)
    cell := Blk.keep h.cell hk (hS 6 _ (by decide) (by decide) h.kc)
    kb := paint_old h.kb h.lo
    kl := fun x hx => (hFL x (D.own x hx)).elim (fun e => paint_old (h.kl x e) h.lo) (fun e => paint_new e.1 e.2)
    kv := fun x hx => paint_old (h.kv x hx) h.lo
    kx := fun x hx => paint_old (h.kx x hx) h.lo
    kc := paint_old h.kc h.lo
    lo := paint_lo h.lo h.Ble hk.size }⟩
/-- Behind a call on the memory. -/
theorem RDAt.onMem (h : RDAt B w b mb m κ A c vv val cb) {M' : MemM} (hm : RMemTo w mb M' (Of κ 5) w') : RDAt B w' b mb { m with m := M' } κ A c vv val cb :=
  have hS : ∀ t x, t ≠ 5 → Of κ t x → ¬ Of κ 5 x := fun t x ht hx => hx.ne ht
  { blk := h.blk.keep hm.keep (hS 0 _ (by decide) h.kb)
    log := ownsRow_keep h.log hm.keep (fun x hx => hS 1 x (by decide) (h.kl x hx))
    vval := h.vval.keep hm.keep (fun x hx => hS 2 x (by decide) (h.kv x hx))
    value := ownsRow_keep h.value hm.keep (fun x hx => hS 3 x (by decide) (h.kx x hx))
    mem := hm.is_
    cell := Blk.keep h.cell hm.keep (hS 6 _ (by decide) h.kc)
    kb := h.kb
    kl := h.kl
    kv := h.kv
    kx := h.kx
    kc := h.kc
    lo := by rw [hm.size]; exact h.lo }
/-- Behind a call on the cell (and its memory). -/
theorem RDAt.onCell (h : RDAt B w b mb m κ A c vv val cb) {M' : MemM} {C' : CellM} (hm : RMemIs w' mb M' (Of κ 5)) (hc : RCellIs w' cb mb C') (hk : Keep (fun x => Of κ 5 x ∨ x = cb) w w') : RDAt B w' b mb { m with m := M', cell := C' } κ A c vv val cb :=
  have hS : ∀ t x, t ≠ 5 → t ≠ 6 → Of κ t x → ¬ (Of κ 5 x ∨ x = cb) := fun t x h5 h6 hx e => e.elim (hx.ne h5) (fun e => (hx.ne h6) (e ▸ h.kc))
  { blk := h.blk.keep hk (hS 0 _ (by decide) (by decide) h.kb)
    log := ownsRow_keep h.log hk (fun x hx => hS 1 x (by decide) (by decide) (h.kl x hx))
    vval := h.vval.keep hk (fun x hx => hS 2 x (by decide) (by decide) (h.kv x hx))
    value := ownsRow_keep h.value hk (fun x hx => hS 3 x (by decide) (by decide) (h.kx x hx))
    mem := hm
    cell := hc
    kb := h.kb
    kl := h.kl
    kv := h.kv
    kx := h.kx
    kc := h.kc
    lo := fun x hx => by have := h.lo x hx; have := hk.size; omega }
theorem RDIs.lo (h : RDIs B w b mb m F) : ∀ x, F x → B ≤ x ∧ x < w.heap.size := h.2
theorem RDIs.Fb (h : RDIs B w b mb m F) : F b := by
  obtain ⟨⟨κ, A, c, vv, val, cb, h, hF⟩, _⟩ := h
  exact hF b (by rw [show κ b = some 0 from h.kb]; simp)
theorem RDIs.Ble (h : RDIs B w b mb m F) : B ≤ w.heap.size := by have := h.lo b h.Fb; omega
theorem RDIs.keepS (h : RDIs B w b mb m F) (hk : Keep S w w') (hS : ∀ x, F x → ¬ S x) : RDIs B w' b mb m F := by
  obtain ⟨⟨κ, A, c, vv, val, cb, h, hF⟩, hlo⟩ := h
  exact ⟨⟨κ, A, c, vv, val, cb, h.keepS hk (fun x hx => hS x (hF x hx)), hF⟩, fun x hx => by have := hlo x hx; have := hk.size; omega⟩
theorem RDIs.below (h : RDIs B w b mb m F) (hb : Below w.heap.size w w') : RDIs B w' b mb m F := h.keepS (S := fun _ => False) (Keep.of_below hb) (fun _ _ h => h)
/-- From a device that was at w, with its blocks in F. -/
theorem RDAt.toIs (h : RDAt B w1 b mb m1 κ A c vv val cb) (h0 : RDIs B w b mb m F) (hF : ∀ x, κ x ≠ none → grow F w w1 x) (hk : Keep F w w1) : RDTo B w b mb m1 F w1 :=
  ⟨⟨⟨κ, A, c, vv, val, cb, h, hF⟩, grow_fb h0.lo h0.Ble hk.size⟩, hk⟩
theorem RDTo.refl (h : RDIs B w b mb m F) : RDTo B w b mb m F w :=
  ⟨⟨by obtain ⟨⟨κ, A, c, vv, val, cb, h, hF⟩, _⟩ := h; exact ⟨κ, A, c, vv, val, cb, h, fun x hx => .inl (hF x hx)⟩, grow_fb h.lo h.Ble (Nat.le_refl _)⟩, Keep.refl _ _⟩
theorem RDTo.trans (h0 : RDIs B w b mb m F) (h1 : RDTo B w b mb m1 F w1) (h2 : RDTo B w1 b mb m2 (grow F w w1) w2) : RDTo B w b mb m2 F w2 := by
  have s1 := h1.keep.size
  have s2 := h2.keep.size
  obtain ⟨⟨κ, A, c, vv, val, cb, h, hF⟩, _⟩ := h2.is_
  refine ⟨⟨⟨κ, A, c, vv, val, cb, h, fun x hx => grow_grow s1 s2 x (hF x hx)⟩, grow_fb h0.lo h0.Ble (by omega)⟩, h1.keep.andThen h2.keep ?_⟩
  intro x hx hg
  rcases hg with hg | hg
  · exact hg
  · omega
theorem RDTo.ofBelow (h : RDIs B w b mb m F) (hb : Below w.heap.size w w') : RDTo B w b mb m F w' := by
  have h2 := h.below hb
  obtain ⟨⟨κ, A, c, vv, val, cb, h1, hF⟩, _⟩ := h2
  exact h1.toIs h (fun x hx => .inl (hF x hx)) (Keep.of_below hb)
theorem RDTo.below (h0 : RDIs B w b mb m F) (h : RDTo B w b mb m1 F w1) (hb : Below w1.heap.size w1 w2) : RDTo B w b mb m1 F w2 := RDTo.trans h0 h (.ofBelow h.is_ hb)
/-- Behind a call that left alone what it did not make, and then a call on it. -/
theorem RDTo.afterBelow (h0 : RDIs B w b mb m F) (hb : Below w.heap.size w w1) (t : RDTo B w1 b mb m2 F w2) : RDTo B w b mb m2 F w2 := by
  obtain ⟨⟨κ, A, c, vv, val, cb, h, hF⟩, _⟩ := t.is_
  have s1 := hb.size
  have s2 := t.keep.size
  exact ⟨⟨⟨κ, A, c, vv, val, cb, h, fun x hx => (hF x hx).elim .inl (fun h => .inr ⟨by omega, h.2⟩)⟩, grow_fb h0.lo h0.Ble (by omega)⟩, (Keep.of_below hb).andThen t.keep (fun x _ hx => hx)⟩
theorem RDAt.toOwn (h : RDAt B w b mb m κ A c vv val cb) (h0 : RDIs B w b mb m F) (hF : ∀ x, κ x ≠ none → F x) (h1 : RDAt B w1 b mb m1 κ A' c' vv' val' cb') (hk : Keep (fun x => x = b) w w1) : RDTo B w b mb m1 F w1 :=
  h1.toIs h0 (fun x hx => .inl (hF x hx)) (hk.mono (fun x _ e => e ▸ hF b (by rw [show κ b = some 0 from h.kb]; simp)))
theorem RDAt.toCell (h : RDAt B w b mb m κ A c vv val cb) (h0 : RDIs B w b mb m F) (hF : ∀ x, κ x ≠ none → F x) {M' : MemM} {C' : CellM} (hm : RMemIs w' mb M' (Of κ 5)) (hc : RCellIs w' cb mb C') (hk : Keep (fun x => Of κ 5 x ∨ x = cb) w w') :
    RDTo B w b mb { m with m := M', cell := C' } F w' := (h.onCell hm hc hk).toIs h0 (fun x hx => .inl (hF x hx)) (hk.mono (fun x _ hx => hx.elim (fun hx => hF x (by rw [show κ x = some 5 from hx]; simp)) (fun hx => hF x (by rw [hx, show κ cb = some 6 from h.kc]; simp))))
theorem RDAt.toMem (h : RDAt B w b mb m κ A c vv val cb) (h0 : RDIs B w b mb m F) (hF : ∀ x, κ x ≠ none → F x) {M' : MemM} (hm : RMemTo w mb M' (Of κ 5) w') :
    RDTo B w b mb { m with m := M' } F w' := (h.onMem hm).toIs h0 (fun x hx => .inl (hF x hx)) (hm.keep.mono (fun x _ hx => hF x (by rw [show κ x = some 5 from hx]; simp)))
end
end Go.Proofs.YtlldgfejcjnpkaaGreat
/- The reference's device: latch, on, leave, answer. -/
namespace Go.Proofs.YtlldgfejcjnpkaaGreat
open Go.RowKit
set_option maxHeartbeats 10000000
set_option maxRecDepth 100000

theorem rdS {w : World} {b mb cb : Nat} {m : DevM} {lg vv val : Value} (h : Blk w b 95 (rdCells m mb cb lg vv val)) : w.cell? ⟨b, 19, none⟩ = some (.int .u32 m.session) ∧ w.cell? ⟨b, 20, none⟩ = some (.int .u32 m.number) := ⟨(h.cell 19).trans rfl, (h.cell 20).trans rfl⟩
theorem keepB {b : Nat} {x : Value} {i : Nat} {w w' : World} (h : Keep (fun x => x = b) w w') : Keep (fun x => x = b) w (w'.setCell ⟨b, i, none⟩ x) := h.setCell (p := ⟨b, i, none⟩) (fun _ => rfl) x
theorem rdLatch_any (B b mb : Nat) (m : DevM) (F : Nat → Prop) (code : Int) (w : World) (hcode : code ≠ 0) (hI : RDIs B w b mb m F) (hlen : m.log.length < 1073741823) :
    Calls Tryz.prog 79 #[.pointer (some ⟨b, 0, none⟩), .int .i64 code] w fun e w' => e = .returned (.tuple #[]) ∧ RDTo B w b mb (m.trip code) F w' := by
  have hI0 := hI
  obtain ⟨⟨κ, A, c, vv, val, cb, hH, hF⟩, hlo⟩ := hI
  have hc := hH.blk.cell
  unfold rdCells at hc
  have htrip := rvTrip_any b 11 _ _ _ m.p.out m.valve vv w code hH.valveBlk rfl hcode
  have hnone : (m.valve.trip code).1.value = none := by unfold ValveM.trip; rw [if_neg hcode]
  have hk0 : ∀ w', Keep (fun x => x = b) w w' → Keep F w w' := fun w' h => h.mono (fun x _ e => e ▸ hI0.Fb)
  cases htr : (m.valve.trip code).2 with
  | false =>
    have e1 : m.trip code = { m with valve := (m.valve.trip code).1 } := by unfold DevM.trip; simp only [htr]; rfl
    rw [e1]
    rw [htr] at htrip
    clear e1
    go_enter Tryz.func79, Tryz.ntmps79
    go_wp2_with fail
    refine htrip.mono ?_
    rintro e w1 ⟨rfl, hv⟩
    go_wp2_with fail
    go_end0
    exact ⟨rfl, (hH.onValve hv (.inr ⟨rfl, hnone⟩)).toIs hI0 (fun x hx => .inl (hF x hx)) (hk0 _ hv.2.1)⟩
  | true =>
    have e1 : m.trip code = { m with valve := (m.valve.trip code).1, log := noteM m.log code m.session m.number } := by unfold DevM.trip; simp only [htr]; rfl
    rw [e1]
    rw [htr] at htrip
    clear e1
    go_enter Tryz.func79, Tryz.ntmps79
    go_wp2_with fail
    refine htrip.mono ?_
    rintro e w1 ⟨rfl, hv⟩
    have h1 := (hH.onValve hv (.inr ⟨rfl, hnone⟩)).drew
    have hk1 : Keep F w w1.drew := (hk0 _ hv.2.1).drew
    have hb1 := h1.blk
    have hl1 := h1.logIs
    have hs1 := hv.2.2
    clear hc htrip hv
    have hc := hb1.cell
    unfold rdCells at hc
    have Hs1 := Lib.hid hs1
    clear hs1
    go_wp2_with fail
    go_region_held3 (fun w' => w'.cell? ⟨b, 19, none⟩ = some (.int .u32 m.session) ∧ w'.cell? ⟨b, 20, none⟩ = some (.int .u32 m.number)) (exact ⟨(rdS hb1).1, (rdS hb1).2⟩) (first
      | (go_at_call 59; refine (refNote_any b 8 _ _ m.log _ code m.session m.number _ hl1 hlen).mono ?_; rintro e W ⟨rfl, ⟨v, hl2⟩, hk2⟩; obtain ⟨A2, c2, h2⟩ := h1.onLog hl2 (fun x hx => hx) hk2; clear hb1; have hb1 := h2.blk))
    go_wp2_with fail
    go_end0
    have hz := Hs1.out
    have hz1 : w1.drew.heap.size = w.heap.size := hz
    refine ⟨rfl, h2.toIs hI0 (fun x hx => ?_) (hk1.andThen hk2 (fun x _ hx => hx.elim (fun hx => hF x (h1.kl x hx).has) (fun hx => hx ▸ hI0.Fb)))⟩
    have := paint_sub hF x hx
    rcases this with h | h
    · exact .inl h
    · exact .inr (by omega)
theorem rdOn_any (B b mb : Nat) (m : DevM) (F : Nat → Prop) (w : World) (hI : RDIs B w b mb m F) (hfr : m.valve.fresh = true → m.valve.latched ≠ 0) :
    Calls Tryz.prog 110 #[.pointer (some ⟨b, 0, none⟩)] w fun e w' => e = .returned (.tuple #[]) ∧ RDTo B w b mb m.alive F w' := by
  have hI0 := hI
  obtain ⟨⟨κ, A, c, vv, val, cb, hH, hF⟩, hlo⟩ := hI
  have hb := hH.blk
  have hc := hb.cell
  have hf := hb.frozen
  unfold rdCells at hc
  have hk1 : Keep (fun x => x = b) w ((w.setCell ⟨b, 22, none⟩ (.int .i64 0)).setCell ⟨b, 10, none⟩ (.int .i64 0)) := keepB (keepB (Keep.refl _ w))
  have h1 : RDAt B ((w.setCell ⟨b, 22, none⟩ (.int .i64 0)).setCell ⟨b, 10, none⟩ (.int .i64 0)) b mb { m with odd := 0, since := 0 } κ A c vv val cb :=
    hH.upd hk1 (by simp [World.setCell]) (by simpa [rdCells] using (hb.set_ 22 (.int .i64 0)).set_ 10 (.int .i64 0)) rfl rfl rfl rfl rfl
  go_enter Tryz.func110, Tryz.ntmps110
  go_wp2_with fail
  refine (rvCome_any b 11 _ _ _ m.p.out m.valve vv _ h1.valveBlk rfl hfr).mono ?_
  rintro e w2 ⟨rfl, hv⟩
  have h2 := h1.onValve hv (.inl ⟨rfl, rfl⟩)
  go_wp2_with fail
  go_end0
  exact ⟨rfl, hH.toOwn hI0 hF h2 (hk1.trans hv.2.1)⟩
theorem rdLeave_any (B b mb : Nat) (m : DevM) (F : Nat → Prop) (s : Int) (w : World) (hI : RDIs B w b mb m F) :
    Calls Tryz.prog 157 #[.pointer (some ⟨b, 0, none⟩), .int .i64 s] w fun e w' => e = .returned (.tuple #[]) ∧ RDTo B w b mb (m.leave s) F w' := by
  have hI0 := hI
  obtain ⟨⟨κ, A, c, vv, val, cb, hH, hF⟩, hlo⟩ := hI
  have hc := hH.blk.cell
  unfold rdCells at hc
  have hrun := rvRun_any b 11 _ _ _ m.p.out m.valve vv w false hH.valveBlk rfl
  go_enter Tryz.func157, Tryz.ntmps157
  go_wp2_with fail
  refine hrun.mono ?_
  rintro e w1 ⟨rfl, hv⟩
  have h1 := hH.onValve hv (run_val m.valve false vv)
  have hk1 := hv.2.1
  clear hc hrun hv
  have hb := h1.blk
  have hc := hb.cell
  have hf := hb.frozen
  unfold rdCells at hc
  have hb2 := ((((hb.set_ 18 (.int .i64 s)).set_ 19 (.int .u32 0)).set_ 20 (.int .u32 0)).set_ 21 (.int .u32 0)).set_ 22 (.int .i64 0)
  have hk2 : Keep (fun x => x = b) w1 (((((w1.setCell ⟨b, 18, none⟩ (.int .i64 s)).setCell ⟨b, 19, none⟩ (.int .u32 0)).setCell ⟨b, 20, none⟩ (.int .u32 0)).setCell ⟨b, 21, none⟩ (.int .u32 0)).setCell ⟨b, 22, none⟩ (.int .i64 0)) := keepB (keepB (keepB (keepB (keepB (Keep.refl _ w1)))))
  have h2 : RDAt B (((((w1.setCell ⟨b, 18, none⟩ (.int .i64 s)).setCell ⟨b, 19, none⟩ (.int .u32 0)).setCell ⟨b, 20, none⟩ (.int .u32 0)).setCell ⟨b, 21, none⟩ (.int .u32 0)).setCell ⟨b, 22, none⟩ (.int .i64 0)) b mb (m.leave s) κ A c _ val cb :=
    h1.upd hk2 (by simp [World.setCell]) (by simpa [rdCells, DevM.leave] using hb2) rfl rfl rfl rfl rfl
  have T := hH.toOwn hI0 hF h2 (hk1.trans hk2)
  clear hb2 hk2 h2 h1 hk1
  have HT := Lib.hid T
  clear T
  go_wp2_with fail
  go_end0
  exact ⟨rfl, HT.out⟩
theorem rdAnswer_any (B b mb : Nat) (m : DevM) (F : Nat → Prop) (k n f : Int) (data : List UInt8) (A : Option Addr) (len cap Br : Nat) (w : World) (hI : RDIs B w b mb m F) (hi : m.Inv) (hlen : data.length = len) (hn : 0 ≤ n ∧ n < 4294967296) (hr : Reads w Br 1 A len (u8c data)) (hB : Br ≤ w.heap.size) :
    Calls Tryz.prog 111 #[.pointer (some ⟨b, 0, none⟩), .int .i64 k, .int .u32 n, .int .i64 f, .slice A len cap] w fun e w' => ∃ v, e = .returned v ∧ w'.ownsRow w.heap.size 5 1 v (m.frame k n f data).length (u8c (m.frame k n f data)) ∧ Below w.heap.size w w' := by
  subst hlen
  obtain ⟨⟨κ, A0, c0, vv, val, cb, hH, hF⟩, hlo⟩ := hI
  have hc := hH.blk.cell
  unfold rdCells at hc
  have henc := fun W (hb : Below w.heap.size w W) => r4encode_any ⟨k, m.p.code, m.session, n, f, data⟩ A cap Br W ⟨hi.pok.code, hi.session, hn⟩ (hr.below (hb.mono hB)) (Nat.le_trans hB hb.size)
  have hfr : m.frame k n f data = (UnitM.mk k m.p.code m.session n f data).encode := rfl
  rw [hfr]
  unfold unitVal at henc
  simp only at henc
  generalize (UnitM.mk k m.p.code m.session n f data).encode = fr at *
  generalize (UnitM.mk k m.p.code m.session n f data).lawful = law at *
  clear hr
  have hb1 := hH.blk.drew
  have hbd := (Below.refl w.heap.size w).drew
  have henc1 := henc w.drew hbd
  clear henc
  go_enter Tryz.func111, Tryz.ntmps111
  go_wp2_with fail
  go_region_held (fun w' => w'.cell? ⟨b, 0, none⟩ = some (.int .u32 m.p.code) ∧ w'.cell? ⟨b, 19, none⟩ = some (.int .u32 m.session)) (exact ⟨(hb1.cell 0).trans rfl, (hb1.cell 19).trans rfl⟩) (first
    | (go_at_call 89; refine henc1.mono ?_; rintro e w1 ⟨v, rfl, hown, hb2⟩; obtain ⟨Av, cv, rfl⟩ := own_slice hown; replace hb1 := hb1.below hb2 hb1.lt))
  go_wp2_with fail
  go_ret
  exact ⟨_, rfl, hown, hbd.trans hb2⟩
end Go.Proofs.YtlldgfejcjnpkaaGreat
/- The reference's cell by its contracts: Open, Next. -/
namespace Go.Proofs.YtlldgfejcjnpkaaGreat
open Go.RowKit
set_option maxHeartbeats 4000000
set_option maxRecDepth 100000

/-- Slots put right, from slot i on. -/
def openGo (m : MemM) : Nat → MemM × Int
  | 0 => if (m.mend 0).2 ≠ 0 then m.mend 0 else (m.mend 0).1.mend 1
  | 1 => m.mend 1
  | _ => (m, 0)
theorem openM_go (m : MemM) (mx : Int) (h0 : mx ≠ 0) (h1 : ¬ m.b.length < 10) (ho : m.off = false) : openM m mx = if (openGo m 0).2 ≠ 0 then ((openGo m 0).1, none, (openGo m 0).2) else ((openGo m 0).1, some ⟨mx, m.top, false⟩, 0) := by
  unfold openM
  rw [if_neg (by simp [h0]; omega), ho, if_neg (by simp)]
  simp only [openGo]
  by_cases h2 : (m.mend 0).2 = 0
  · simp [h2]
  · simp [h2]
theorem openGo_step (m : MemM) (i : Nat) (hi : i < 2) : openGo m i = if (m.mend i).2 ≠ 0 then m.mend i else openGo (m.mend i).1 (i + 1) := by
  have hc : i = 0 ∨ i = 1 := by omega
  rcases hc with rfl | rfl
  · rfl
  · simp only [openGo]
    by_cases h2 : (m.mend 1).2 = 0
    · simp only [h2, ne_eq, not_true_eq_false, if_false]; rw [← h2]
    · simp [h2]
theorem rOpen_any (mb : Nat) (m : MemM) (F : Nat → Prop) (mx : Int) (w : World) (h : RMemIs w mb m F) (hF : ∀ x, F x → x < w.heap.size) :
    Calls Tryz.prog 51 #[.pointer (some ⟨mb, 0, none⟩), .int .u32 mx] w fun e w' => (RMemIs w' mb (openM m mx).1 F ∧ Keep F w w') ∧
      match (openM m mx).2.1 with
      | some k => ∃ c, e = .returned (.tuple #[.pointer (some ⟨c, 0, none⟩), .int .i64 0]) ∧ (openM m mx).2.2 = 0 ∧ RCellIs w' c mb k ∧ w.heap.size ≤ c ∧ c < w'.heap.size
      | none => e = .returned (.tuple #[.pointer none, .int .i64 (openM m mx).2.2]) := by
  have hI := h
  by_cases h0 : mx = 0
  · subst h0
    have e1 : openM m 0 = (m, none, 2) := by unfold openM; rw [if_pos (.inl rfl)]
    rw [e1]
    go_enter Tryz.func51, Tryz.ntmps51
    go_wp2_with fail
    refine bodyPost_ret (v := .tuple #[.pointer none, .int .i64 2]) (by simp [results, Tryz.results51, go_sem]) rfl ⟨⟨h, Keep.refl _ _⟩, rfl⟩
  have g0 : (mx == 0) = false := by simpa using h0
  obtain ⟨row, wr, h⟩ := h
  obtain ⟨A, c, rfl⟩ := own_slice h.bytes
  have hc := h.blk.cell
  unfold rmemCells at hc
  by_cases h1 : m.b.length < 10
  · have e1 : openM m mx = (m, none, 2) := by unfold openM; rw [if_pos (.inr h1)]
    rw [e1]
    have g1 : ((m.b.length : Int) < 10) := by omega
    go_enter Tryz.func51, Tryz.ntmps51
    go_wp2_with fail
    refine bodyPost_ret (v := .tuple #[.pointer none, .int .i64 2]) (by simp [results, Tryz.results51, go_sem]) rfl ⟨⟨hI, Keep.refl _ _⟩, rfl⟩
  have g1 : ¬ ((m.b.length : Int) < 10) := by omega
  cases ho : m.off with
  | true =>
    have e1 : openM m mx = (m, none, 70) := by unfold openM; rw [if_neg (by simp [h0]; omega), if_pos ho]
    rw [e1]
    rw [ho] at hc
    go_enter Tryz.func51, Tryz.ntmps51
    go_wp2_with fail
    refine bodyPost_ret (v := .tuple #[.pointer none, .int .i64 70]) (by simp [results, Tryz.results51, go_sem]) rfl ⟨⟨hI, Keep.refl _ _⟩, rfl⟩
  | false =>
  rw [openM_go m mx h0 h1 ho]
  rw [ho] at hc
  have H1 := Lib.hid h1
  have HF := Lib.hid hF
  obtain ⟨q, Hq⟩ : ∃ q, Hid (q = openGo m 0) := ⟨_, Lib.hid rfl⟩
  obtain ⟨tp, Htp⟩ : ∃ q, Hid (q = m.top) := ⟨_, Lib.hid rfl⟩
  have hval := fun w h => rValue_any mb m F w h (by omega)
  rw [← Htp.out] at hval ⊢
  rw [← Hq.out]
  clear h hF h1
  go_enter Tryz.func51, Tryz.ntmps51
  go_wp2_with fail
  refine (hval _ hI).mono ?_
  rintro e w1 ⟨rfl, hb1⟩
  have hI1 := hI.below hb1
  have hk1 : Keep F w w1 := Keep.of_below hb1
  clear hc hval hI
  go_wp2_with fail
  go_loopw [7] (fun v7 wl => ∃ (i : Nat) (mi : MemM), i ≤ 2 ∧ v7 = .int .i64 i ∧ RMemIs wl mb mi F ∧ mi.b.length = m.b.length ∧ Hid (q = openGo mi i) ∧ Keep F w wl) (fun v7 _ => 2 - (intOf v7).toNat)
  case atStart => exact ⟨0, m, by omega, rfl, hI1, rfl, Hq, hk1⟩
  case round =>
    clear hI1 hk1 hb1
    obtain ⟨i, mi, hi, rfl, ti, hli, Hqi, ki⟩ := hrel
    have hb10 : 10 ≤ mi.b.length := by have := H1.out; omega
    have hlt : ∀ x, F x → x < wr.heap.size := fun x hx => by have := HF.out x hx; have := ki.size; omega
    have hcase : i = 0 ∨ i = 1 ∨ i = 2 := by omega
    rcases hcase with rfl | rfl | rfl
    · have Hq1 : Hid (q = if (mi.mend 0).2 ≠ 0 then mi.mend 0 else openGo (mi.mend 0).1 1) := Lib.hid (by rw [Hqi.out]; exact openGo_step mi 0 (by omega))
      clear Hqi
      have hml := mend_len mi 0
      have hho := fun w h => rHolds_any mb mi F 1 1 w rfl h hb10 (by omega)
      have hhk := fun w h => rHolds_any mb mi F 0 0 w rfl h hb10 (by omega)
      cases hk0 : mi.holds 0 with
      | true =>
        have e3 : mi.mend 0 = (mi, 0) := by unfold MemM.mend; simp [hk0]
        have Hq2 : Hid (q = openGo mi 1) := Lib.hid (by rw [Hq1.out, e3]; simp)
        clear Hq1 hml e3
        rw [hk0] at hhk
        go_wp2_with fail
        refine (hho _ ti).mono ?_
        rintro e w2 ⟨rfl, rfl⟩
        generalize mi.holds (1) = ot at *
        go_wp2_with (refine (hhk _ ti).mono ?_; rintro e w3 ⟨rfl, rfl⟩)
        go_round
        case rel => exact ⟨1, mi, by omega, by go_num, ti, hli, Hq2, ki⟩
        case measure => simp [intOf]
      | false =>
        rw [hk0] at hhk
        cases ho0 : mi.holds 1 with
        | true =>
          have e3 : mi.mend 0 = mi.writeSlot 0 (mi.word 1) := by unfold MemM.mend; rw [if_pos (by simp [hk0, ho0])]
          rw [e3] at Hq1 hml
          rw [ho0] at hho
          have hwd := fun w h => rWord_any mb mi F 1 1 w rfl h hb10 (by omega)
          have hwr := fun w h hF => rWrite_any mb mi F 0 0 (mi.word 1) w rfl h hF hb10 (by omega) (mi.word_range 1)
          generalize mi.word 1 = x at *
          generalize mi.writeSlot 0 x = r at *
          obtain ⟨mr, er⟩ := r
          simp only at hwr Hq1 hml
          clear e3
          go_wp2_with fail
          refine (hho _ ti).mono ?_
          rintro e w2 ⟨rfl, rfl⟩
          go_wp2_with fail
          refine (hhk _ ti).mono ?_
          rintro e w3 ⟨rfl, rfl⟩
          go_wp2_with fail
          refine (hwd _ ti).mono ?_
          rintro e w4 ⟨rfl, n4, rfl⟩
          go_wp2_with fail
          refine (hwr _ (ti.drewN n4) hlt).mono ?_
          rintro e w5 ⟨rfl, t5, k5⟩
          have kk5 := (ki.drewN n4).andThen k5 (fun _ _ h => h)
          by_cases he : er = 0
          · subst he
            have Hq4 : Hid (q = openGo mr 1) := Lib.hid (by rw [Hq1.out]; simp)
            clear Hq1 hho hhk hwd hwr
            go_wp2_with fail
            go_round
            case rel => exact ⟨1, mr, by omega, by go_num, t5, by omega, Hq4, kk5⟩
            case measure => simp [intOf]
          · have Hq4 : q = (mr, er) := by rw [Hq1.out, if_pos he]
            subst Hq4
            have g2 : (er != 0) = true := by simpa using he
            clear Hq1 hho hhk hwd hwr
            go_wp2_with fail
            refine bodyPost_ret (v := .tuple #[.pointer none, .int .i64 er]) (by simp [results, Tryz.results51, go_sem]) rfl ?_
            exact ⟨⟨t5, kk5⟩, rfl⟩
        | false =>
          rw [ho0] at hho
          obtain ⟨row2, wr2, h2⟩ := id ti
          obtain ⟨A2, c2, rfl⟩ := own_slice h2.bytes
          have hcm := h2.blk.cell
          unfold rmemCells at hcm
          have hlen2 := h2.len
          obtain ⟨g, rfl, hcell⟩ := own_cell1 h2.bytes (by omega)
          have hv := hcell (0) (by omega)
          have hgd : mi.b.getD (5 * 0) 0 = mi.b[0]'(by omega) := by simp [List.getD_eq_getElem?_getD]; rw [List.getElem?_eq_getElem (by omega)]; rfl
          have e4 : mi.mend 0 = if mi.b.getD (5 * 0) 0 != 0 then mi.write (5 * 0) 0 else (mi, 0) := by unfold MemM.mend; rw [if_neg (by simp [ho0])]; simp [hk0]
          rw [hgd] at e4
          have hbn : ((mi.b[0]'(by omega)).toNat : Int) = 0 ↔ mi.b[0]'(by omega) = 0 := by
            constructor
            · intro h; exact UInt8.toNat.inj (by simpa using h)
            · intro h; rw [h]; rfl
          rw [e4] at Hq1 hml
          have hwr := fun W hW => rmemWrite_at mb mi F (5 * 0) 0 0 0 W (by omega) rfl hW (by omega)
          clear hcell hgd e4 h2
          have hlb : (10 : Int) ≤ (mi.b.length : Int) := by omega
          generalize mi.b[0]'(by omega) = y at *
          by_cases hy : y = 0
          · have gy : (y.toNat : Int) = 0 := hbn.mpr hy
            have Hq2 : Hid (q = openGo mi 1) := Lib.hid (by rw [Hq1.out]; simp [hy])
            rw [gy] at hv
            clear Hq1 hml hwr hbn
            go_wp2_with fail
            refine (hho _ ti).mono ?_
            rintro e w2 ⟨rfl, rfl⟩
            go_wp2_with fail
            refine (hhk _ ti).mono ?_
            rintro e w3 ⟨rfl, rfl⟩
            go_wp2_with fail
            refine (hhk _ ti).mono ?_
            rintro e w4 ⟨rfl, rfl⟩
            go_wp2_with fail
            go_round
            case rel => exact ⟨1, mi, by omega, by go_num, ti, hli, Hq2, ki⟩
            case measure => simp [intOf]
          · have gy : ¬ (y.toNat : Int) = 0 := fun h => hy (hbn.mp h)
            have gy2 : ((y.toNat : Int) != 0) = true := by simpa using gy
            have hyb : (y != 0) = true := by simpa using hy
            rw [if_pos hyb] at Hq1 hml
            generalize mi.write (5 * 0) 0 = r at *
            obtain ⟨mr, er⟩ := r
            simp only at hwr Hq1 hml
            generalize (y.toNat : Int) = yy at *
            clear hbn hy hyb
            go_wp2_with fail
            refine (hho _ ti).mono ?_
            rintro e w2 ⟨rfl, rfl⟩
            go_wp2_with fail
            refine (hhk _ ti).mono ?_
            rintro e w3 ⟨rfl, rfl⟩
            go_wp2_with fail
            refine (hhk _ ti).mono ?_
            rintro e w4 ⟨rfl, rfl⟩
            go_wp2_with fail
            refine (hwr _ ti).mono ?_
            rintro e w5 ⟨rfl, t5, k5, z5⟩
            have kk5 := ki.andThen k5 (fun _ _ h => h)
            clear z5 hcm hv
            by_cases he : er = 0
            · subst he
              have Hq4 : Hid (q = openGo mr 1) := Lib.hid (by rw [Hq1.out]; simp)
              clear Hq1 hho hhk hwr
              go_wp2_with fail
              go_round
              case rel => exact ⟨1, mr, by omega, by go_num, t5, by omega, Hq4, kk5⟩
              case measure => simp [intOf]
            · have Hq4 : q = (mr, er) := by rw [Hq1.out, if_pos he]
              subst Hq4
              have g2 : (er != 0) = true := by simpa using he
              clear Hq1 hho hhk hwr
              go_wp2_with fail
              refine bodyPost_ret (v := .tuple #[.pointer none, .int .i64 er]) (by simp [results, Tryz.results51, go_sem]) rfl ?_
              exact ⟨⟨t5, kk5⟩, rfl⟩
    · have Hq1 : Hid (q = if (mi.mend 1).2 ≠ 0 then mi.mend 1 else openGo (mi.mend 1).1 2) := Lib.hid (by rw [Hqi.out]; exact openGo_step mi 1 (by omega))
      clear Hqi
      have hml := mend_len mi 1
      have hho := fun w h => rHolds_any mb mi F 0 0 w rfl h hb10 (by omega)
      have hhk := fun w h => rHolds_any mb mi F 1 1 w rfl h hb10 (by omega)
      cases hk0 : mi.holds 1 with
      | true =>
        have e3 : mi.mend 1 = (mi, 0) := by unfold MemM.mend; simp [hk0]
        have Hq2 : Hid (q = openGo mi 2) := Lib.hid (by rw [Hq1.out, e3]; simp)
        clear Hq1 hml e3
        rw [hk0] at hhk
        go_wp2_with fail
        refine (hho _ ti).mono ?_
        rintro e w2 ⟨rfl, rfl⟩
        generalize mi.holds (0) = ot at *
        go_wp2_with (refine (hhk _ ti).mono ?_; rintro e w3 ⟨rfl, rfl⟩)
        go_round
        case rel => exact ⟨2, mi, by omega, by go_num, ti, hli, Hq2, ki⟩
        case measure => simp [intOf]
      | false =>
        rw [hk0] at hhk
        cases ho0 : mi.holds 0 with
        | true =>
          have e3 : mi.mend 1 = mi.writeSlot 1 (mi.word 0) := by unfold MemM.mend; rw [if_pos (by simp [hk0, ho0])]
          rw [e3] at Hq1 hml
          rw [ho0] at hho
          have hwd := fun w h => rWord_any mb mi F 0 0 w rfl h hb10 (by omega)
          have hwr := fun w h hF => rWrite_any mb mi F 1 1 (mi.word 0) w rfl h hF hb10 (by omega) (mi.word_range 0)
          generalize mi.word 0 = x at *
          generalize mi.writeSlot 1 x = r at *
          obtain ⟨mr, er⟩ := r
          simp only at hwr Hq1 hml
          clear e3
          go_wp2_with fail
          refine (hho _ ti).mono ?_
          rintro e w2 ⟨rfl, rfl⟩
          go_wp2_with fail
          refine (hhk _ ti).mono ?_
          rintro e w3 ⟨rfl, rfl⟩
          go_wp2_with fail
          refine (hwd _ ti).mono ?_
          rintro e w4 ⟨rfl, n4, rfl⟩
          go_wp2_with fail
          refine (hwr _ (ti.drewN n4) hlt).mono ?_
          rintro e w5 ⟨rfl, t5, k5⟩
          have kk5 := (ki.drewN n4).andThen k5 (fun _ _ h => h)
          by_cases he : er = 0
          · subst he
            have Hq4 : Hid (q = openGo mr 2) := Lib.hid (by rw [Hq1.out]; simp)
            clear Hq1 hho hhk hwd hwr
            go_wp2_with fail
            go_round
            case rel => exact ⟨2, mr, by omega, by go_num, t5, by omega, Hq4, kk5⟩
            case measure => simp [intOf]
          · have Hq4 : q = (mr, er) := by rw [Hq1.out, if_pos he]
            subst Hq4
            have g2 : (er != 0) = true := by simpa using he
            clear Hq1 hho hhk hwd hwr
            go_wp2_with fail
            refine bodyPost_ret (v := .tuple #[.pointer none, .int .i64 er]) (by simp [results, Tryz.results51, go_sem]) rfl ?_
            exact ⟨⟨t5, kk5⟩, rfl⟩
        | false =>
          rw [ho0] at hho
          obtain ⟨row2, wr2, h2⟩ := id ti
          obtain ⟨A2, c2, rfl⟩ := own_slice h2.bytes
          have hcm := h2.blk.cell
          unfold rmemCells at hcm
          have hlen2 := h2.len
          obtain ⟨g, rfl, hcell⟩ := own_cell1 h2.bytes (by omega)
          have hv := hcell (5) (by omega)
          have hgd : mi.b.getD (5 * 1) 0 = mi.b[5]'(by omega) := by simp [List.getD_eq_getElem?_getD]; rw [List.getElem?_eq_getElem (by omega)]; rfl
          have e4 : mi.mend 1 = if mi.b.getD (5 * 1) 0 != 0 then mi.write (5 * 1) 0 else (mi, 0) := by unfold MemM.mend; rw [if_neg (by simp [ho0])]; simp [hk0]
          rw [hgd] at e4
          have hbn : ((mi.b[5]'(by omega)).toNat : Int) = 0 ↔ mi.b[5]'(by omega) = 0 := by
            constructor
            · intro h; exact UInt8.toNat.inj (by simpa using h)
            · intro h; rw [h]; rfl
          rw [e4] at Hq1 hml
          have hwr := fun W hW => rmemWrite_at mb mi F (5 * 1) 0 5 0 W (by omega) rfl hW (by omega)
          clear hcell hgd e4 h2
          have hlb : (10 : Int) ≤ (mi.b.length : Int) := by omega
          generalize mi.b[5]'(by omega) = y at *
          by_cases hy : y = 0
          · have gy : (y.toNat : Int) = 0 := hbn.mpr hy
            have Hq2 : Hid (q = openGo mi 2) := Lib.hid (by rw [Hq1.out]; simp [hy])
            rw [gy] at hv
            clear Hq1 hml hwr hbn
            go_wp2_with fail
            refine (hho _ ti).mono ?_
            rintro e w2 ⟨rfl, rfl⟩
            go_wp2_with fail
            refine (hhk _ ti).mono ?_
            rintro e w3 ⟨rfl, rfl⟩
            go_wp2_with fail
            refine (hhk _ ti).mono ?_
            rintro e w4 ⟨rfl, rfl⟩
            go_wp2_with fail
            go_round
            case rel => exact ⟨2, mi, by omega, by go_num, ti, hli, Hq2, ki⟩
            case measure => simp [intOf]
          · have gy : ¬ (y.toNat : Int) = 0 := fun h => hy (hbn.mp h)
            have gy2 : ((y.toNat : Int) != 0) = true := by simpa using gy
            have hyb : (y != 0) = true := by simpa using hy
            rw [if_pos hyb] at Hq1 hml
            generalize mi.write (5 * 1) 0 = r at *
            obtain ⟨mr, er⟩ := r
            simp only at hwr Hq1 hml
            generalize (y.toNat : Int) = yy at *
            clear hbn hy hyb
            go_wp2_with fail
            refine (hho _ ti).mono ?_
            rintro e w2 ⟨rfl, rfl⟩
            go_wp2_with fail
            refine (hhk _ ti).mono ?_
            rintro e w3 ⟨rfl, rfl⟩
            go_wp2_with fail
            refine (hhk _ ti).mono ?_
            rintro e w4 ⟨rfl, rfl⟩
            go_wp2_with fail
            refine (hwr _ ti).mono ?_
            rintro e w5 ⟨rfl, t5, k5, z5⟩
            have kk5 := ki.andThen k5 (fun _ _ h => h)
            clear z5 hcm hv
            by_cases he : er = 0
            · subst he
              have Hq4 : Hid (q = openGo mr 2) := Lib.hid (by rw [Hq1.out]; simp)
              clear Hq1 hho hhk hwr
              go_wp2_with fail
              go_round
              case rel => exact ⟨2, mr, by omega, by go_num, t5, by omega, Hq4, kk5⟩
              case measure => simp [intOf]
            · have Hq4 : q = (mr, er) := by rw [Hq1.out, if_pos he]
              subst Hq4
              have g2 : (er != 0) = true := by simpa using he
              clear Hq1 hho hhk hwr
              go_wp2_with fail
              refine bodyPost_ret (v := .tuple #[.pointer none, .int .i64 er]) (by simp [results, Tryz.results51, go_sem]) rfl ?_
              exact ⟨⟨t5, kk5⟩, rfl⟩
    · have e3 : q = (mi, 0) := Hqi.out
      subst e3
      go_wp2_with fail
      have hz := ki.size
      refine bodyPost_ret (v := .tuple #[.pointer (some ⟨wr.heap.size, 0, none⟩), .int .i64 0]) (by simp [results, Tryz.results51, go_sem]) rfl ⟨⟨ti.below ((Below.refl _ _).alloc (Nat.le_refl _) _), ki.alloc _⟩, ?_⟩
      exact ⟨wr.heap.size, rfl, Blk.new wr _ _, hz, by simp⟩
theorem rNext_any (c mb : Nat) (k : CellM) (m : MemM) (F : Nat → Prop) (w : World) (h : RMemIs w mb m F) (hC : RCellIs w c mb k) (hF : ∀ x, F x → x < w.heap.size) (hcF : ¬ F c) (hb : 10 ≤ m.b.length) (hv : 0 ≤ k.value ∧ k.max < 4294967296) :
    Calls Tryz.prog 156 #[.pointer (some ⟨c, 0, none⟩)] w fun e w' => e = .returned (.tuple #[.int .u32 (k.next m).2.2.1, .int .i64 (k.next m).2.2.2]) ∧ RMemIs w' mb (k.next m).2.1 F ∧ RCellIs w' c mb (k.next m).1 ∧ Keep (fun x => F x ∨ x = c) w w' := by
  have hc := Blk.cell hC
  have hI := h
  obtain ⟨row, wr, h⟩ := h
  have hmc := h.blk.cell
  unfold rmemCells at hmc
  have hh0 := fun w h => rHolds_any mb m F 0 0 w rfl h hb (by omega)
  have hh1 := fun w h => rHolds_any mb m F 1 1 w rfl h hb (by omega)
  have hw0 := fun w h => rWord_any mb m F 0 0 w rfl h hb (by omega)
  have hw1 := fun w h => rWord_any mb m F 1 1 w rfl h hb (by omega)
  by_cases h0 : (k.dead || m.off) = true
  · have e1 : k.next m = (k, m, 0, 70) := by unfold CellM.next; rw [if_pos h0]
    rw [e1]
    cases hd : k.dead with
    | true =>
      rw [hd] at hc
      go_enter Tryz.func156, Tryz.ntmps156
      go_wp2_with fail
      refine bodyPost_ret (v := .tuple #[.int .u32 0, .int .i64 70]) (by simp [results, Tryz.results156, go_sem]) rfl ⟨rfl, hI, hC, Keep.refl _ _⟩
    | false =>
      have ho : m.off = true := by rw [hd] at h0; simpa using h0
      rw [hd] at hc
      rw [ho] at hmc
      go_enter Tryz.func156, Tryz.ntmps156
      go_wp2_with fail
      refine bodyPost_ret (v := .tuple #[.int .u32 0, .int .i64 70]) (by simp [results, Tryz.results156, go_sem]) rfl ⟨rfl, hI, hC, Keep.refl _ _⟩
  · obtain ⟨hd, ho⟩ : k.dead = false ∧ m.off = false := by
      cases hd : k.dead <;> cases ho : m.off <;> simp_all
    rw [hd] at hc
    rw [ho] at hmc
    have n0 : 0 ≤ k.value := hv.1
    by_cases h1 : k.max ≤ k.value
    · have e1 : k.next m = (k, m, 0, 80) := by unfold CellM.next; rw [if_neg h0, if_pos h1]
      rw [e1]
      go_enter Tryz.func156, Tryz.ntmps156
      go_wp2_with fail
      go_big_quiet (fail)
      go_wp2_with fail
      refine bodyPost_ret (v := .tuple #[.int .u32 0, .int .i64 80]) (by simp [results, Tryz.results156, go_sem]) rfl ⟨rfl, hI.drewN _, Blk.drewN hC _, (Keep.refl _ _).drewN _⟩
    · obtain ⟨s, Hs⟩ : ∃ s : Nat, Hid (s = if m.holds 0 && (!m.holds 1 || decide (m.word 1 < m.word 0)) then 1 else 0) := ⟨_, Lib.hid rfl⟩
      have hs2 : s < 2 := by rw [Hs.out]; split <;> omega
      have hwr : IntKind.u32.wrap (k.value + 1) = k.value + 1 := IntWalk.u32_in _ (by omega)
      obtain ⟨q, Hq⟩ : ∃ q, Hid (q = k.next m) := ⟨_, Lib.hid rfl⟩
      have Hq1 : Hid (q = if (m.writeSlot s (k.value + 1)).2 ≠ 0 then ({ k with dead := true }, (m.writeSlot s (k.value + 1)).1, 0, 70) else ({ k with value := k.value + 1 }, (m.writeSlot s (k.value + 1)).1, k.value + 1, 0)) := Lib.hid (by
        rw [Hq.out]; unfold CellM.next; rw [if_neg h0, if_neg h1, ← Hs.out])
      have hw := fun w h hF => rWrite_any mb m F s (s : Int) (k.value + 1) w rfl h hF hb hs2 (by omega)
      rw [← Hq.out]
      generalize m.writeSlot s (k.value + 1) = r at *
      obtain ⟨mr, er⟩ := r
      simp only at hw
      have Hq2 : Hid (q = if er ≠ 0 then ({ k with dead := true }, mr, 0, 70) else ({ k with value := k.value + 1 }, mr, k.value + 1, 0)) := Lib.hid Hq1.out
      clear Hq Hq1
      generalize m.word 0 = y0 at *
      generalize m.word 1 = y1 at *
      have ge : decide (k.max ≤ k.value) = false := by simpa using h1
      go_enter Tryz.func156, Tryz.ntmps156
      go_wp2_with fail
      go_big_quiet (fail)
      have hIq := hI.drewN nq
      have hCq : RCellIs (w.drewN nq) c mb k := Blk.drewN hC nq
      have hFq : ∀ x, F x → x < (w.drewN nq).heap.size := hF
      have hk1 := (Keep.refl (fun x => F x ∨ x = c) w).drewN nq
      generalize w.drewN nq = W1 at *
      clear hc hmc h hI hC hF
      have hc := Blk.cell hCq
      rw [hd] at hc
      have q0 : ∀ n, Calls Tryz.prog 99 #[.pointer (some ⟨mb, 0, none⟩), .int .i64 0] (W1.drewN n) fun e w' => e = .returned (.bool (m.holds 0)) ∧ w' = W1.drewN n := fun n => hh0 _ (hIq.drewN n)
      have q1 : ∀ n, Calls Tryz.prog 99 #[.pointer (some ⟨mb, 0, none⟩), .int .i64 1] (W1.drewN n) fun e w' => e = .returned (.bool (m.holds 1)) ∧ w' = W1.drewN n := fun n => hh1 _ (hIq.drewN n)
      have q2 : ∀ n, Calls Tryz.prog 101 #[.pointer (some ⟨mb, 0, none⟩), .int .i64 0] (W1.drewN n) fun e w' => e = .returned (.int .u32 y0) ∧ ∃ q, w' = (W1.drewN n).drewN q := fun n => hw0 _ (hIq.drewN n)
      have q3 : ∀ n, Calls Tryz.prog 101 #[.pointer (some ⟨mb, 0, none⟩), .int .i64 1] (W1.drewN n) fun e w' => e = .returned (.int .u32 y1) ∧ ∃ q, w' = (W1.drewN n).drewN q := fun n => hw1 _ (hIq.drewN n)
      clear hh0 hh1 hw0 hw1
      go_upto_region 6 with fail
      go_cut [53] (fun v53 wc => v53 = .bool (m.holds 0 && (!m.holds 1 || decide (y1 < y0))) ∧ ∃ n, wc = W1.drewN n)
      case first =>
        cases g0 : m.holds 0
        · rw [g0] at q0
          go_big_quiet ((go_at_call 99; exact Calls.quiet_of_same (q0 _)))
          go_wp2_with fail
          go_meet
          exact ⟨by rw [g0]; rfl, _, rfl⟩
        · rw [g0] at q0
          cases g1 : m.holds 1
          · rw [g1] at q1
            go_big_quiet ((go_at_call 99; (with_reducible first | exact Calls.quiet_of_same (q0 _) | exact Calls.quiet_of_same (q1 _))))
            go_wp2_with fail
            go_meet
            exact ⟨by rw [g0, g1]; rfl, _, rfl⟩
          · rw [g1] at q1
            go_big_quiet (first | (go_at_call 99; (with_reducible first | exact Calls.quiet_of_same (q0 _) | exact Calls.quiet_of_same (q1 _))) | (go_at_call 101; (with_reducible first | exact Calls.quiet_of (q2 _) | exact Calls.quiet_of (q3 _))))
            go_wp2_with fail
            go_meet
            exact ⟨by rw [g0, g1]; rfl, _, rfl⟩
      case rest =>
        obtain ⟨rfl, n2, rfl⟩ := hcut
        have hI2 := hIq.drewN n2
        have hC2 : RCellIs (W1.drewN n2) c mb k := Blk.drewN hCq n2
        have hF2 : ∀ x, F x → x < (W1.drewN n2).heap.size := hFq
        have hk2 := hk1.drewN n2
        generalize W1.drewN n2 = W2 at *
        clear hc hIq hCq hFq hk1 q0 q1 q2 q3
        have hcc := Blk.cell hC2
        rw [hd] at hcc
        generalize (m.holds 0 && (!m.holds 1 || decide (y1 < y0))) = bb at *
        cases bb
        all_goals
          have es := Hs.out
          simp only [Bool.false_eq_true, if_false, if_true] at es
          subst es
          have hMd := hI2.drewN 1
          have hCd : RCellIs W2.drew c mb k := Blk.drew hC2
          have hFd : ∀ x, F x → x < W2.drew.heap.size := hF2
          have hkd := hk2.drew
          replace hMd : RMemIs W2.drew mb m F := hMd
          clear hI2 hk2 hF2
          go_wp2_with fail
          go_region_held3 (fun w' => w'.cell? ⟨c, 0, none⟩ = some (.pointer (some ⟨mb, 0, none⟩)) ∧ w'.cell? ⟨c, 2, none⟩ = some (.int .u32 k.value)) (exact ⟨(Blk.cell hCd 0).trans rfl, (Blk.cell hCd 2).trans rfl⟩) (first
            | (go_at_call 100; refine (hw _ hMd hFd).mono ?_; rintro e W3 ⟨rfl, t3, k3⟩; replace hCd : RCellIs W3 c mb k := Blk.keep hCd k3 hcF))
          all_goals
            have hk3 := hkd.andThen k3 (fun x _ hx => .inl hx)
            have hc3 := Blk.cell hCd
            have hf3 := Blk.frozen hCd
            clear hcc hw
            by_cases he : er = 0
            · have hq := Hq2.out
              rw [if_neg (by simpa using he)] at hq
              subst hq
              subst he
              have hset : RCellIs (W3.setCell ⟨c, 2, none⟩ (.int .u32 (k.value + 1))) c mb ⟨k.max, k.value + 1, false⟩ := by simpa [RCellIs, hd] using Blk.set_ hCd 2 (.int .u32 (k.value + 1))
              have hMe := t3.keep (S := fun x => x = c) ((Keep.refl (fun x => x = c) W3).setCell (p := ⟨c, 2, none⟩) (fun _ => rfl) (.int .u32 (k.value + 1))) (fun x hx e => hcF (e ▸ hx)) (fun _ h => h)
              go_wp2_with fail
              refine bodyPost_ret (v := .tuple #[.int .u32 (k.value + 1), .int .i64 0]) (by simp [results, Tryz.results156, go_sem]) rfl ⟨rfl, hMe, hset, hk3.setCell (p := ⟨c, 2, none⟩) (fun _ => .inr rfl) _⟩
            · have hq := Hq2.out
              rw [if_pos he] at hq
              subst hq
              have g2 : (er != 0) = true := by simpa using he
              have hset : RCellIs (W3.setCell ⟨c, 3, none⟩ (.bool true)) c mb { k with dead := true } := by simpa [RCellIs] using Blk.set_ hCd 3 (.bool true)
              have hMe := t3.keep (S := fun x => x = c) ((Keep.refl (fun x => x = c) W3).setCell (p := ⟨c, 3, none⟩) (fun _ => rfl) (.bool true)) (fun x hx e => hcF (e ▸ hx)) (fun _ h => h)
              go_wp2_with fail
              refine bodyPost_ret (v := .tuple #[.int .u32 0, .int .i64 70]) (by simp [results, Tryz.results156, go_sem]) rfl ⟨rfl, hMe, hset, hk3.setCell (p := ⟨c, 3, none⟩) (fun _ => .inr rfl) _⟩
end Go.Proofs.YtlldgfejcjnpkaaGreat
