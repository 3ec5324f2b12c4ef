/- What parapetlaw16's step reads and leaves. -/
import Derived.Test.YtlldgfejcjnpkaaGreatMid6
set_option linter.unusedVariables false
namespace Go.Proofs.YtlldgfejcjnpkaaGreat
open Go.RowKit
set_option maxHeartbeats 10000000
set_option maxRecDepth 100000

theorem Keep.cell_ {S : Nat → Prop} {w w' : World} (hk : Keep S w w') {p : Addr} (hlt : p.block < w.heap.size) (hS : ¬ S p.block) : w'.cell? p = w.cell? p := World.cell?_of_block (w := w) (hk.block p.block hlt hS)
/-- The law's struct and its lists, as a walk reads them. -/
structure TabN (w : World) (z x y n : Nat) (R : List PRow) (Q : List QRow) (U : Nat → Prop) (dad mad rad : Addr) (cd cm cr : Nat) : Prop where
  blk : Blk w z 78 #[.pointer (some ⟨x, 0, none⟩), .pointer (some ⟨y, 0, none⟩), .slice (some dad) n cd, .slice (some mad) n cm, .slice (some rad) n cr]
  uz : U z
  ud : U dad.block
  um : U mad.block
  ur : U rad.block
  lt : ∀ g, U g → g < w.heap.size
  d : ∀ i r, R[i]? = some r → w.cell? (dad.add i) = some (.pointer (some ⟨r.a, 0, none⟩))
  m : ∀ i r, R[i]? = some r → w.cell? (mad.add i) = some (.pointer (some ⟨r.ma, 0, none⟩))
  q : ∀ i q, Q[i]? = some q → w.cell? (rad.add i) = some (.pointer (some ⟨q.b, 0, none⟩))
theorem TabN.keepS {w w' : World} {z x y n : Nat} {R : List PRow} {Q : List QRow} {U S : Nat → Prop} {dad mad rad : Addr} {cd cm cr : Nat} (h : TabN w z x y n R Q U dad mad rad cd cm cr) (hk : Keep S w w') (hS : ∀ g, U g → ¬ S g) : TabN w' z x y n R Q U dad mad rad cd cm cr where
  blk := h.blk.keep hk (hS _ h.uz)
  uz := h.uz
  ud := h.ud
  um := h.um
  ur := h.ur
  lt := fun g hg => by have := h.lt g hg; have := hk.size; omega
  d := fun i r hr => (hk.cell_ (by rw [block_of_add]; exact h.lt _ h.ud) (by rw [block_of_add]; exact hS _ h.ud)).trans (h.d i r hr)
  m := fun i r hr => (hk.cell_ (by rw [block_of_add]; exact h.lt _ h.um) (by rw [block_of_add]; exact hS _ h.um)).trans (h.m i r hr)
  q := fun i r hr => (hk.cell_ (by rw [block_of_add]; exact h.lt _ h.ur) (by rw [block_of_add]; exact hS _ h.ur)).trans (h.q i r hr)
theorem TabN.below {w w' : World} {z x y n : Nat} {R : List PRow} {Q : List QRow} {U : Nat → Prop} {dad mad rad : Addr} {cd cm cr : Nat} (h : TabN w z x y n R Q U dad mad rad cd cm cr) (hb : Below w.heap.size w w') : TabN w' z x y n R Q U dad mad rad cd cm cr := h.keepS (S := fun _ => False) (Keep.of_below hb) (fun _ _ h => h)
theorem ptrs_at {w : World} {A : Option Addr} {c : Nat} {l : List Nat} {t : TypeId} (h : w.ownsRow 0 t 1 (.slice A l.length c) l.length (ptrs l)) (hl : 0 < l.length) : ∃ ad, A = some ad ∧ (Value.slice A l.length c).ownBlock = some ad.block ∧ ∀ i a, l[i]? = some a → w.cell? (ad.add i) = some (.pointer (some ⟨a, 0, none⟩)) := by
  obtain ⟨g, rfl⟩ := own_some h hl
  refine ⟨⟨g, 0, none⟩, rfl, rfl, fun i a ha => ?_⟩
  have hil := (List.getElem?_eq_some_iff.1 ha).1
  obtain ⟨ad, u, h1, _, h3, h4⟩ := (Reads.of_own h).at_ hil
  injection h1 with h1
  subst h1
  rw [h4, ← h3]
  unfold ptrs
  rw [List.getElem?_map, ha]
  rfl
/-- What a call leaves of the devices' lists. -/
structure Likes (R R' : List PRow) (Q Q' : List QRow) : Prop where
  len : R'.length = R.length
  code : R'.map PRow.code = R.map PRow.code
  a : R'.map PRow.a = R.map PRow.a
  ma : R'.map PRow.ma = R.map PRow.ma
  b : Q'.map QRow.b = Q.map QRow.b
theorem Likes.refl (R : List PRow) (Q : List QRow) : Likes R R Q Q := ⟨rfl, rfl, rfl, rfl, rfl⟩
theorem Likes.trans {R R' R2 : List PRow} {Q Q' Q2 : List QRow} (h : Likes R R' Q Q') (h2 : Likes R' R2 Q' Q2) : Likes R R2 Q Q2 := ⟨h2.len.trans h.len, h2.code.trans h.code, h2.a.trans h.a, h2.ma.trans h.ma, h2.b.trans h.b⟩
/-- What a step leaves. -/
def StepAns (B z x y : Nat) (R : List PRow) (Q : List QRow) (U : Nat → Prop) (k : Nat) (w w' : World) : Prop := ∃ R' Q' lost' F' G', MuxW B w' z x y R' Q' lost' F' G' U (k + 1) ∧ Likes R R' Q Q' ∧ Below B w w'
section
variable {B k : Nat} {w w' : World} {z x y : Nat} {R : List PRow} {lost : Int} {Q : List QRow} {F G U : Nat → Prop}
theorem MuxW.tabN (h : MuxW B w z x y R Q lost F G U k) (h0 : 0 < R.length) : ∃ dad mad rad cd cm cr, TabN w z x y R.length R Q U dad mad rad cd cm cr := by
  obtain ⟨vd, vm, vr, ht⟩ := h.h.tab
  have hql := h.qlen
  obtain ⟨Ad, cd, rfl⟩ := own_slice ht.devs
  obtain ⟨Am, cm, rfl⟩ := own_slice ht.mems
  obtain ⟨Ar, cr, rfl⟩ := own_slice ht.refs
  obtain ⟨dad, rfl, e1, d1⟩ := ptrs_at ht.devs (by simpa using h0)
  obtain ⟨mad, rfl, e2, d2⟩ := ptrs_at ht.mems (by simpa using h0)
  obtain ⟨rad, rfl, e3, d3⟩ := ptrs_at ht.refs (by rw [List.length_map]; omega)
  have hb := ht.blk
  rw [List.length_map, List.length_map, List.length_map, hql] at hb
  exact ⟨dad, mad, rad, cd, cm, cr, hb, ht.uz, ht.ud _ e1, ht.um _ e2, ht.ur _ e3, fun g hg => (h.h.ulo g hg).2, fun i r hr => d1 i r.a (by rw [List.getElem?_map, hr]; rfl), fun i r hr => d2 i r.ma (by rw [List.getElem?_map, hr]; rfl), fun i q hq => d3 i q.b (by rw [List.getElem?_map, hq]; rfl)⟩
/-- One device, on both sides, called by itself. -/
theorem MuxW.dev2 (h : MuxW B w z x y R Q lost F G U k) {i : Nat} {r : PRow} {q : QRow} (hr : R[i]? = some r) (hq : Q[i]? = some q) (hm : q.m = r.m) (hs : q.seen = r.seen) :
    ∃ FD GD, DevIs B w r.a r.ma r.m FD ∧ RDIs B w q.b q.mb r.m GD ∧ r.m.Inv ∧ (∀ g, FD g → F g) ∧ (∀ g, GD g → G g) ∧ (∀ g, FD g → ¬ GD g) ∧
      ∀ w1 w2 m', DevTo B w r.a r.ma m' FD w1 → RDTo B w1 q.b q.mb m' GD w2 → m'.Inv → m'.p = r.m.p → m'.log.length ≤ r.m.log.length + 4 → StepAns B z x y R Q U k w w2 := by
  obtain ⟨FD, hD, hi, hFD, cD⟩ := h.h.prog.onDev hr
  obtain ⟨⟨κ, vl, vs, hM, hF⟩, hlo⟩ := h.h.ref
  have hGD : ∀ g, Of κ (2 * i + 11) g → G g := fun g hg => hF g (by rw [show κ g = _ from hg]; simp)
  have hR := (hM.dev i q hq).1
  rw [hm] at hR
  refine ⟨FD, _, hD, hR, hi, hFD, hGD, fun g hf hg => h.h.fg g (hFD g hf) (hGD g hg), fun w1 w2 m' t1 t2 hi' hp hl => ?_⟩
  have hP := cD w1 m' t1 hi' hp
  have h1 := h.h.onProg hP (map_set_same PRow.a (u := { r with m := m' }) hr rfl) (map_set_same PRow.ma (u := { r with m := m' }) hr rfl)
  have hM1 := hM.keepS t1.keep (fun g hg hf => h.h.fg g (hFD g hf) (hF g hg))
  have t2' : RMuxTo B w1 y (Q.set i { q with m := m' }) lost G w2 := by
    refine ⟨⟨⟨_, vl, vs, hM1.onDev hq t2 hi', paint_sub hF⟩, fun g hg => ?_⟩, t2.keep.mono (fun g _ hg => hGD g hg)⟩
    have hs := t2.keep.size
    have hB := hM1.Ble
    have hs1 := t1.keep.size
    rcases hg with hg | hg
    · have := hlo g hg; omega
    · omega
  have h2 := h1.onRef t2' (map_set_same QRow.b (u := { q with m := m' }) hq rfl)
  have hB0 := h.h.prog.Ble
  refine ⟨_, _, _, _, _, ⟨h2, ?_, by rw [List.length_set]; exact h.len8, fun p hp' => ?_, by have := h.lostk; omega⟩, ⟨by simp, map_set_same PRow.code (u := { r with m := m' }) hr (by simp [PRow.code, hp]), map_set_same PRow.a (u := { r with m := m' }) hr rfl, map_set_same PRow.ma (u := { r with m := m' }) hr rfl, map_set_same QRow.b (u := { q with m := m' }) hq rfl⟩, (t1.keep.below hB0 (fun g hg => (h.h.prog.lo g (hFD g hg)).1)).trans (t2.keep.below (by have := t1.keep.size; omega) (fun g hg => (h.h.ref.lo g (hGD g hg)).1))⟩
  · rw [List.map_set, List.map_set, h.same]
    simp [hs]
  · rcases List.mem_or_eq_of_mem_set hp' with h3 | h3
    · have := h.used p h3; omega
    · subst h3
      have := h.used r (List.mem_of_getElem? hr)
      simp only
      omega
end
end Go.Proofs.YtlldgfejcjnpkaaGreat
