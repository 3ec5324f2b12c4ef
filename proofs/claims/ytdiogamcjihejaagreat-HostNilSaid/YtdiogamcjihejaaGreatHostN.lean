/- host.New. -/
import Derived.Test.YtdiogamcjihejaaGreatHostR
namespace Go.Proofs.YtdiogamcjihejaaGreat
open Go.RowKit
set_option maxHeartbeats 10000000
set_option maxRecDepth 100000

theorem hostS7 {w : World} {e0 : Nat} {t : TypeId} {x0 x1 x2 x3 x4 : Value} (h : Blk w e0 t #[x0, x1, x2, x3, x4]) :
    w.cell? ⟨e0, 0, none⟩ = some x0 ∧ w.cell? ⟨e0, 1, none⟩ = some x1 ∧ w.cell? ⟨e0, 2, none⟩ = some x2 ∧ w.cell? ⟨e0, 3, none⟩ = some x3 ∧ w.cell? ⟨e0, 4, none⟩ = some x4 :=
  ⟨(h.cell 0).trans rfl, (h.cell 1).trans rfl, (h.cell 2).trans rfl, (h.cell 3).trans rfl, (h.cell 4).trans rfl⟩
theorem hostNew_bad (p : ParM) (w : World) (hp : p.lawful = false) : Calls Tryz.prog 21 #[parVal p] w fun e w' => e = .returned (.tuple #[.pointer none, .int .i64 90]) ∧ Below w.heap.size w w' := by
  have hchk := paramCheck_any p
  rw [hp] at hchk
  unfold parVal at *
  go_enter Tryz.func21, Tryz.ntmps21
  go_wp2_with fail
  refine (hchk _).mono ?_
  rintro e w1 ⟨rfl, hb1⟩
  go_wp2_with fail
  refine bodyPost_ret (v := .tuple #[.pointer none, .int .i64 90]) (by simp [results, Tryz.results21, go_sem]) rfl ⟨rfl, ?_⟩
  exact ((Below.refl _ _).alloc (Nat.le_refl _) _).trans (hb1.mono (by simp))
theorem hostNew_any (p : ParM) (w : World) (hp : p.lawful = true) : Calls Tryz.prog 21 #[parVal p] w fun e w' => ∃ a F, e = .returned (.tuple #[.pointer (some ⟨a, 0, none⟩), .int .i64 0]) ∧ HostIs w.heap.size w' a (HostM.new p) F ∧ Below w.heap.size w w' := by
  have hchk := paramCheck_any p
  rw [hp] at hchk
  unfold parVal at *
  go_enter Tryz.func21, Tryz.ntmps21
  go_wp2_with fail
  refine (hchk _).mono ?_
  rintro e w1 ⟨rfl, hb1⟩
  have hb1' : Below w.heap.size w w1 := ((Below.refl _ w).alloc (Nat.le_refl _) _).trans (hb1.mono (by simp))
  have hP := (Blk.new w 30 #[.int .u32 p.code, .int .i64 p.out, .int .i64 p.inn, .int .i64 p.watch, .int .u32 p.count]).below hb1 (by simp)
  have hc := hP.cell
  have hf := hP.frozen
  clear hb1 hchk
  go_wp2_with fail
  replace hP := hP.drew
  have hbd := hb1'.drew
  have hlt := hP.lt
  go_region_held3 (fun w' => w'.cell? ⟨w.heap.size, 0, none⟩ = some (.int .u32 p.code) ∧ w'.cell? ⟨w.heap.size, 1, none⟩ = some (.int .i64 p.out) ∧ w'.cell? ⟨w.heap.size, 2, none⟩ = some (.int .i64 p.inn) ∧ w'.cell? ⟨w.heap.size, 3, none⟩ = some (.int .i64 p.watch) ∧ w'.cell? ⟨w.heap.size, 4, none⟩ = some (.int .u32 p.count)) (with_reducible (first | exact hostS7 hP | exact hostS7 (hP.alloc _))) (first
    | (go_at_call 71; refine (diagNew_any _).mono ?_; rintro e W ⟨g, rfl, hD, hbn⟩; replace hP := hP.below hbn hlt; have hs := hbn.size; replace hbd := hbd.trans (hbn.mono hbd.size)))
  go_wp2_with fail
  have hbw := hbd.size
  have hb1s := hb1'.size
  have hw1s : w1.drew.heap.size = w1.heap.size := rfl
  have hD2 := hD.keep (F' := fun x => w1.drew.heap.size ≤ x ∧ x < W.heap.size) (S := fun _ => False) ((Keep.refl _ W).alloc (.cells #[.int .u32 p.code, .int .i64 p.out, .int .i64 p.inn, .int .i64 p.watch, .int .u32 p.count, .pointer none, .pointer none, .pointer (some ⟨g, 0, none⟩), .int .i64 0, .int .u32 0, .int .u32 0, .int .u32 0, .bool false, .int .i64 0, .slice none 0 0, .bool false] 117)) (fun _ _ h => h) (fun _ h => h)
  have hbe := hbd.alloc hbd.size (.cells #[.int .u32 p.code, .int .i64 p.out, .int .i64 p.inn, .int .i64 p.watch, .int .u32 p.count, .pointer none, .pointer none, .pointer (some ⟨g, 0, none⟩), .int .i64 0, .int .u32 0, .int .u32 0, .int .u32 0, .bool false, .int .i64 0, .slice none 0 0, .bool false] 117)
  refine (hostReset_any w.heap.size W.heap.size g p [] _ _ _ _ _ _ _ _ _ _ _ _ hp (Blk.new W _ _) hD2 (by simp) (fun x hx => by simp; omega)).mono ?_
  rintro e W3 ⟨rfl, hI, hk⟩
  go_wp2_with fail
  refine bodyPost_ret (v := .tuple #[.pointer (some ⟨W.heap.size, 0, none⟩), .int .i64 0]) (by simp [results, Tryz.results21, go_sem]) rfl ⟨_, _, rfl, hI, ?_⟩
  exact hbe.trans (hk.below hbe.size (fun b hb => by rw [hb]; exact hbd.size))
theorem hostResetTo_any (B a : Nat) (m : HostM) (F : Nat → Prop) (w : World) (hH : HostIs B w a m F) (hp : m.p.lawful = true) :
    Calls Tryz.prog 45 #[.pointer (some ⟨a, 0, none⟩)] w fun e w' => e = .returned (.int .i64 0) ∧ HostTo B w a m.reset F w' := by
  obtain ⟨d, v, g, val, FV, FL, hH⟩ := hH
  refine (hostReset_any B a g m.p m.log FL _ _ _ _ _ _ _ _ _ _ w hp hH.blk hH.log hH.la.1 (fun x hx => hx.elim (fun e => e ▸ hH.fb a hH.fa) (fun hx => hH.fb x (hH.fL x hx)))).mono ?_
  rintro e w' ⟨rfl, hI, hk⟩
  obtain ⟨d', v', g', val', FV', FL', h'⟩ := hI
  refine ⟨rfl, ⟨d', v', g', val', FV', FL', h'.mono (fun x hx => ?_) (grow_fb hH.fb hH.Ble hk.size)⟩, hk.mono (fun x _ e => e ▸ hH.fa)⟩
  rcases hx with (hx | hx) | hx
  · exact .inl (hx ▸ hH.fa)
  · exact .inl (hH.fL x hx)
  · exact .inr hx
end Go.Proofs.YtdiogamcjihejaaGreat
