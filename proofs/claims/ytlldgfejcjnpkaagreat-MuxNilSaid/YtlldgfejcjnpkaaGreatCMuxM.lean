/- The program's mux in memory: its devices and their meters, told apart by a colour each. -/
import Derived.Test.YtlldgfejcjnpkaaGreatBase34
import Derived.Test.YtlldgfejcjnpkaaGreatCMapG
import Derived.Test.YtlldgfejcjnpkaaGreatCSort32
set_option linter.unusedVariables false
namespace Go.Proofs.YtlldgfejcjnpkaaGreat
open Go.RowKit
set_option maxHeartbeats 4000000
set_option maxRecDepth 100000

/-- A port: the device at a over the memory at ma, its meter at s. -/
structure PRow where
  a : Nat
  ma : Nat
  s : Nat
  m : DevM
  seen : Int
def PRow.code (r : PRow) : Int := r.m.p.code
def PRow.port (r : PRow) : Int × Value := (r.code, .agg #[.pointer (some ⟨r.a, 0, none⟩), .pointer (some ⟨r.s, 0, none⟩)])
/-- Colours: 0 the mux's block, 1 its map, 2 the meter of what is lost, 2 i + 10 the i-th port's meter, 2 i + 11 its device. -/
structure MuxAt (B : Nat) (w : World) (x : Nat) (R : List PRow) (lost : Int) (κ : Nat → Option Nat) (mp bl : Nat) : Prop where
  blk : Blk w x 157 #[.map (some mp), .pointer (some ⟨bl, 0, none⟩)]
  map : MapG.MapIs .u32 w mp (R.map PRow.port)
  lostB : Blk w bl 241 (meterCells lost none)
  seen : ∀ i r, R[i]? = some r → Blk w r.s 241 (meterCells r.seen none) ∧ Of κ (2 * i + 10) r.s
  dev : ∀ i r, R[i]? = some r → DevIs B w r.a r.ma r.m (Of κ (2 * i + 11)) ∧ r.m.Inv
  kx : Of κ 0 x
  km : Of κ 1 mp
  kl : Of κ 2 bl
  lo : ∀ y, κ y ≠ none → B ≤ y ∧ y < w.heap.size
  codes : (R.map PRow.code).Nodup
/-- A mux whose blocks lie in F, from B on. -/
def MuxIs (B : Nat) (w : World) (x : Nat) (R : List PRow) (lost : Int) (F : Nat → Prop) : Prop := (∃ κ mp bl, MuxAt B w x R lost κ mp bl ∧ ∀ y, κ y ≠ none → F y) ∧ ∀ y, F y → B ≤ y ∧ y < w.heap.size
structure MuxTo (B : Nat) (w : World) (x : Nat) (R : List PRow) (lost : Int) (F : Nat → Prop) (w' : World) : Prop where
  is_ : MuxIs B w' x R lost (grow F w w')
  keep : Keep F w w'
theorem MapG.MapIs.keep {κ : IntKind} {w w' : World} {mp : Nat} {l : List (Int × Value)} {S : Nat → Prop} (h : MapG.MapIs κ w mp l) (hk : Keep S w w') (hS : ¬ S mp) : MapG.MapIs κ w' mp l := (hk.block mp h.lt hS).trans h
section
variable {B : Nat} {w w' : World} {x mp bl i : Nat} {R R' : List PRow} {lost : Int} {κ : Nat → Option Nat} {F S : Nat → Prop} {r : PRow}
theorem MuxAt.Ble (h : MuxAt B w x R lost κ mp bl) : B ≤ w.heap.size := by have := h.lo x (by rw [show κ x = some 0 from h.kx]; simp); omega
theorem MuxAt.keepS (h : MuxAt B w x R lost κ mp bl) (hk : Keep S w w') (hS : ∀ y, κ y ≠ none → ¬ S y) : MuxAt B w' x R lost κ mp bl :=
  have hS' : ∀ t y, Of κ t y → ¬ S y := fun t y hy => hS y (by rw [show κ y = some t from hy]; simp)
  { blk := h.blk.keep hk (hS' _ _ h.kx)
    map := h.map.keep hk (hS' _ _ h.km)
    lostB := h.lostB.keep hk (hS' _ _ h.kl)
    seen := fun i r hr => ⟨(h.seen i r hr).1.keep hk (hS' _ _ (h.seen i r hr).2), (h.seen i r hr).2⟩
    dev := fun i r hr => ⟨(h.dev i r hr).1.keepS hk (hS' _), (h.dev i r hr).2⟩
    kx := h.kx
    km := h.km
    kl := h.kl
    lo := fun y hy => by have := h.lo y hy; have := hk.size; omega
    codes := h.codes }
theorem MuxAt.below (h : MuxAt B w x R lost κ mp bl) (hb : Below w.heap.size w w') : MuxAt B w' x R lost κ mp bl := h.keepS (S := fun _ => False) (Keep.of_below hb) (fun _ _ h => h)
theorem MuxIs.lo (h : MuxIs B w x R lost F) : ∀ y, F y → B ≤ y ∧ y < w.heap.size := h.2
theorem MuxIs.Ble (h : MuxIs B w x R lost F) : B ≤ w.heap.size := by obtain ⟨⟨_, _, _, hM, _⟩, _⟩ := h; exact hM.Ble
theorem MuxIs.keepS (h : MuxIs B w x R lost F) (hk : Keep S w w') (hS : ∀ y, F y → ¬ S y) : MuxIs B w' x R lost F := by
  obtain ⟨⟨κ, mp, bl, hM, hF⟩, hlo⟩ := h
  exact ⟨⟨κ, mp, bl, hM.keepS hk (fun y hy => hS y (hF y hy)), hF⟩, fun y hy => by have := hlo y hy; have := hk.size; omega⟩
theorem MuxIs.below (h : MuxIs B w x R lost F) (hb : Below w.heap.size w w') : MuxIs B w' x R lost F := h.keepS (S := fun _ => False) (Keep.of_below hb) (fun _ _ h => h)
/-- Behind a call that touches colour t alone: what is of another colour, in the new colours. -/
theorem MuxAt.rest (h : MuxAt B w x R lost κ mp bl) (t : Nat) (hk : Keep (Of κ t) w w') :
    (t ≠ 0 → Blk w' x 157 #[.map (some mp), .pointer (some ⟨bl, 0, none⟩)]) ∧ (t ≠ 1 → MapG.MapIs .u32 w' mp (R.map PRow.port)) ∧ (t ≠ 2 → Blk w' bl 241 (meterCells lost none)) ∧
    (∀ i r, R[i]? = some r → (t ≠ 2 * i + 10 → Blk w' r.s 241 (meterCells r.seen none)) ∧ Of (paint κ t w w') (2 * i + 10) r.s) ∧
    (∀ i r, R[i]? = some r → t ≠ 2 * i + 11 → DevIs B w' r.a r.ma r.m (Of (paint κ t w w') (2 * i + 11))) ∧
    Of (paint κ t w w') 0 x ∧ Of (paint κ t w w') 1 mp ∧ Of (paint κ t w w') 2 bl ∧ ∀ y, paint κ t w w' y ≠ none → B ≤ y ∧ y < w'.heap.size := by
  have hlo := paint_lo (t := t) h.lo h.Ble hk.size
  refine ⟨fun ht => h.blk.keep hk (h.kx.ne (Ne.symm ht)), fun ht => h.map.keep hk (h.km.ne (Ne.symm ht)), fun ht => h.lostB.keep hk (h.kl.ne (Ne.symm ht)), fun i r hr => ⟨fun ht => (h.seen i r hr).1.keep hk ((h.seen i r hr).2.ne (Ne.symm ht)), paint_old (h.seen i r hr).2 h.lo⟩, fun i r hr ht => ?_, paint_old h.kx h.lo, paint_old h.km h.lo, paint_old h.kl h.lo, hlo⟩
  have hd := (h.dev i r hr).1.keepS hk (fun y hy => hy.ne (Ne.symm ht))
  obtain ⟨⟨κ', c, d, v, g, val, hD, hF⟩, _⟩ := hd
  exact ⟨⟨κ', c, d, v, g, val, hD, fun y hy => paint_old (hF y hy) h.lo⟩, fun y hy => hlo y (by rw [show paint κ t w w' y = _ from hy]; simp)⟩
theorem set_get {α : Type} {l : List α} {i j : Nat} {u v : α} (h : (l.set i u)[j]? = some v) : (j = i ∧ v = u ∧ i < l.length) ∨ (j ≠ i ∧ l[j]? = some v) := by
  rw [List.getElem?_set] at h
  by_cases e : i = j
  · subst e
    rw [if_pos rfl] at h
    split at h
    · rename_i hl; exact .inl ⟨rfl, (Option.some.inj h).symm, hl⟩
    · cases h
  · rw [if_neg e] at h
    exact .inr ⟨fun e' => e e'.symm, h⟩
theorem map_set_same {α β : Type} (f : α → β) {l : List α} {i : Nat} {u v : α} (h : l[i]? = some v) (e : f u = f v) : (l.set i u).map f = l.map f := by
  rw [List.map_set, e]
  apply List.ext_getElem?
  intro k
  rw [List.getElem?_set]
  split
  · rename_i e'; subst e'
    obtain ⟨h1, h2⟩ := List.getElem?_eq_some_iff.1 h
    simp [h1, h2]
  · rfl
/-- Behind a call on the i-th device. -/
theorem MuxAt.onDev (h : MuxAt B w x R lost κ mp bl) (hr : R[i]? = some r) {m' : DevM} (t : DevTo B w r.a r.ma m' (Of κ (2 * i + 11)) w') (hi : m'.Inv) (hp : m'.p = r.m.p) :
    MuxAt B w' x (R.set i { r with m := m' }) lost (paint κ (2 * i + 11) w w') mp bl := by
  obtain ⟨h0, h1, h2, hs, hd, k0, k1, k2, lo⟩ := h.rest (2 * i + 11) t.keep
  have hc : PRow.code { r with m := m' } = r.code := by simp [PRow.code, hp]
  have hpt : PRow.port { r with m := m' } = r.port := by simp [PRow.port, hc]
  refine ⟨h0 (by omega), ?_, h2 (by omega), fun j q hq => ?_, fun j q hq => ?_, k0, k1, k2, lo, ?_⟩
  · rw [map_set_same _ hr hpt]; exact h1 (by omega)
  · rcases set_get hq with ⟨rfl, rfl, _⟩ | ⟨_, hq⟩
    · exact ⟨(hs _ r hr).1 (by omega), (hs _ r hr).2⟩
    · exact ⟨(hs j q hq).1 (by omega), (hs j q hq).2⟩
  · rcases set_get hq with ⟨rfl, rfl, _⟩ | ⟨hne, hq⟩
    · refine ⟨?_, hi⟩
      obtain ⟨⟨κ', c, d, v, g, val, hD, hF⟩, _⟩ := t.is_
      exact ⟨⟨κ', c, d, v, g, val, hD, paint_of h.lo hF⟩, fun y hy => lo y (by rw [show paint κ _ w w' y = _ from hy]; simp)⟩
    · exact ⟨hd j q hq (by omega), (h.dev j q hq).2⟩
  · rw [map_set_same _ hr hc]; exact h.codes
/-- Behind a frame more for the i-th port. -/
theorem MuxAt.onSeen (h : MuxAt B w x R lost κ mp bl) (hr : R[i]? = some r) (n : Int) : MuxAt B (w.setCell ⟨r.s, 0, none⟩ (.int .u64 n)) x (R.set i { r with seen := n }) lost κ mp bl := by
  have hb := (h.seen i r hr).1
  have hk : Keep (fun y => y = r.s) w (w.setCell ⟨r.s, 0, none⟩ (.int .u64 n)) := (Keep.refl (fun y => y = r.s) w).setCell (p := ⟨r.s, 0, none⟩) (fun _ => rfl) _
  have hS : ∀ t y, t ≠ 2 * i + 10 → Of κ t y → ¬ y = r.s := fun t y ht hy e => (hy.ne ht) (e ▸ (h.seen i r hr).2)
  refine ⟨h.blk.keep hk (hS 0 _ (by omega) h.kx), ?_, h.lostB.keep hk (hS 2 _ (by omega) h.kl), fun j q hq => ?_, fun j q hq => ?_, h.kx, h.km, h.kl, fun y hy => by have := h.lo y hy; simpa using this, ?_⟩
  · rw [map_set_same PRow.port (u := { r with seen := n }) hr rfl]; exact h.map.keep hk (hS 1 _ (by omega) h.km)
  · rcases set_get hq with ⟨rfl, rfl, _⟩ | ⟨hne, hq⟩
    · exact ⟨hb.set_ 0 _, (h.seen _ r hr).2⟩
    · exact ⟨(h.seen j q hq).1.keep hk (hS _ _ (by omega) (h.seen j q hq).2), (h.seen j q hq).2⟩
  · rcases set_get hq with ⟨rfl, rfl, _⟩ | ⟨hne, hq⟩
    · exact ⟨(h.dev _ r hr).1.keepS hk (fun y => hS _ y (by omega)), (h.dev _ r hr).2⟩
    · exact ⟨(h.dev j q hq).1.keepS hk (fun y => hS _ y (by omega)), (h.dev j q hq).2⟩
  · rw [map_set_same PRow.code (u := { r with seen := n }) hr rfl]; exact h.codes
/-- Behind a frame more that came for nobody. -/
theorem MuxAt.onLost (h : MuxAt B w x R lost κ mp bl) (n : Int) : MuxAt B (w.setCell ⟨bl, 0, none⟩ (.int .u64 n)) x R n κ mp bl := by
  have hk : Keep (fun y => y = bl) w (w.setCell ⟨bl, 0, none⟩ (.int .u64 n)) := (Keep.refl (fun y => y = bl) w).setCell (p := ⟨bl, 0, none⟩) (fun _ => rfl) _
  have hS : ∀ t y, t ≠ 2 → Of κ t y → ¬ y = bl := fun t y ht hy e => (hy.ne ht) (e ▸ h.kl)
  exact ⟨h.blk.keep hk (hS 0 _ (by omega) h.kx), h.map.keep hk (hS 1 _ (by omega) h.km), h.lostB.set_ 0 _, fun j q hq => ⟨(h.seen j q hq).1.keep hk (hS _ _ (by omega) (h.seen j q hq).2), (h.seen j q hq).2⟩, fun j q hq => ⟨(h.dev j q hq).1.keepS hk (fun y => hS _ y (by omega)), (h.dev j q hq).2⟩, h.kx, h.km, h.kl, fun y hy => by have := h.lo y hy; simpa using this, h.codes⟩
theorem MuxIs.of (h : MuxAt B w x R lost κ mp bl) (hF : ∀ y, κ y ≠ none → F y) (hlo : ∀ y, F y → B ≤ y ∧ y < w.heap.size) : MuxIs B w x R lost F := ⟨⟨κ, mp, bl, h, hF⟩, hlo⟩
/-- A call on one of its devices, from outside. -/
theorem MuxIs.onDev (h : MuxIs B w x R lost F) (hr : R[i]? = some r) : ∃ FD, DevIs B w r.a r.ma r.m FD ∧ r.m.Inv ∧ (∀ y, FD y → F y) ∧ ∀ w' m', DevTo B w r.a r.ma m' FD w' → m'.Inv → m'.p = r.m.p → MuxTo B w x (R.set i { r with m := m' }) lost F w' := by
  obtain ⟨⟨κ, mp, bl, hM, hF⟩, hlo⟩ := h
  refine ⟨_, (hM.dev i r hr).1, (hM.dev i r hr).2, fun y hy => hF y (by rw [show κ y = _ from hy]; simp), fun w' m' t hi hp => ⟨⟨⟨_, mp, bl, hM.onDev hr t hi hp, paint_sub hF⟩, fun y hy => ?_⟩, t.keep.mono (fun y _ hy => hF y (by rw [show κ y = _ from hy]; simp))⟩⟩
  have hs := t.keep.size
  have hB := hM.Ble
  rcases hy with hy | hy
  · have := hlo y hy; omega
  · omega
end
end Go.Proofs.YtlldgfejcjnpkaaGreat
