/- The contract of mux.Add. -/
import Derived.Test.YtlldgfejcjnpkaaGreatCMuxP
import Derived.Deep.RegionHeld3
set_option linter.unusedVariables false
namespace Go.Proofs.YtlldgfejcjnpkaaGreat
open Go.RowKit
set_option maxHeartbeats 10000000
set_option maxRecDepth 100000

theorem muxAdd_twice (B x a ma : Nat) (R : List PRow) (lost : Int) (F FD : Nat → Prop) (m : DevM) (w : World) (hM : MuxIs B w x R lost F) (hD : DevIs B w a ma m FD) {i : Nat} {r : PRow} (hr : R[i]? = some r) (hc : r.code = m.p.code) :
    Calls Tryz.prog 37 #[.pointer (some ⟨x, 0, none⟩), .pointer (some ⟨a, 0, none⟩)] w fun e w' => e = .returned (.int .i64 160) ∧ ∃ k, w' = w.drewN k := by
  obtain ⟨⟨κ, mp, bl, hM, hF⟩, hlo⟩ := hM
  have hcx := hM.blk.cell
  have hlook := fun k => (hM.map.keep ((Keep.refl (fun _ => False) w).drewN k) (fun h => h)).run_lookup (P := Tryz.prog) Tryz.underlying154 Tryz.underlying34 (zero_port (w.drewN k)) m.p.code
  have hlk := lk_port hM.codes hr
  rw [hc] at hlk
  rw [hlk] at hlook
  simp only [Option.getD_some] at hlook
  have hcd := fun k => devCode_any B a ma m FD (w.drewN k) (hD.below (belowN (Below.refl w.heap.size w) k))
  have hfl := port_dev (some ⟨r.a, 0, none⟩) (some ⟨r.s, 0, none⟩)
  clear hM hF hlo hr hlk hc
  go_enter Tryz.func37, Tryz.ntmps37
  go_wp2_with fail
  go_big_quiet ((go_at_call 82; exact Calls.quiet_of_same (hcd _)))
  go_wp2_with fail
  go_ret
  exact ⟨rfl, _, rfl⟩
theorem muxAdd_full (B x a ma : Nat) (R : List PRow) (lost : Int) (F FD : Nat → Prop) (m : DevM) (w : World) (hM : MuxIs B w x R lost F) (hD : DevIs B w a ma m FD) (hc : ∀ r ∈ R, r.code ≠ m.p.code) (hl : 8 ≤ R.length) :
    Calls Tryz.prog 37 #[.pointer (some ⟨x, 0, none⟩), .pointer (some ⟨a, 0, none⟩)] w fun e w' => e = .returned (.int .i64 150) ∧ ∃ k, w' = w.drewN k := by
  obtain ⟨⟨κ, mp, bl, hM, hF⟩, hlo⟩ := hM
  have hcx := hM.blk.cell
  have hmp := fun k => hM.map.keep ((Keep.refl (fun _ => False) w).drewN k) (fun h => h)
  have hlook := fun k => (hmp k).run_lookup (P := Tryz.prog) Tryz.underlying154 Tryz.underlying34 (zero_port (w.drewN k)) m.p.code
  have hlen := fun k t => (hmp k).run_len (P := Tryz.prog) Tryz.underlying154 t
  rw [lk_port_none hc] at hlook
  simp only [Option.getD_none] at hlook
  rw [List.length_map] at hlen
  have hcd := fun k => devCode_any B a ma m FD (w.drewN k) (hD.below (belowN (Below.refl w.heap.size w) k))
  have hfl := port_dev none none
  have hge : (8 : Int) ≤ (R.length : Int) := by omega
  clear hc hmp hM hF hlo
  go_enter Tryz.func37, Tryz.ntmps37
  go_wp2_with fail
  go_big_quiet ((go_at_call 82; exact Calls.quiet_of_same (hcd _)))
  go_wp2_with fail
  go_ret
  exact ⟨rfl, _, rfl⟩
open Classical in
/-- The new port's blocks in their colours. -/
noncomputable def tint (κ : Nat → Option Nat) (b n : Nat) (FD : Nat → Prop) : Nat → Option Nat := fun y => if y = b then some (2 * n + 10) else if FD y then some (2 * n + 11) else κ y
theorem tint_old {κ : Nat → Option Nat} {b n t y : Nat} {FD : Nat → Prop} (h : Of κ t y) (hb : y ≠ b) (hF : ¬ FD y) : Of (tint κ b n FD) t y := by
  unfold Of tint
  rw [if_neg hb, if_neg hF]
  exact h
/-- A map entry more. -/
def mapMore (w : World) (mp : Nat) (l : List (Int × Value)) (p : Int × Value) : World := { w with heap := w.heap.setIfInBounds mp (.map (MapG.entsK .u32 (l ++ [p]) 0).toArray (l.length + 1)) }
theorem MuxAt.added {B x a ma mp bl k : Nat} {R : List PRow} {lost : Int} {κ : Nat → Option Nat} {FD : Nat → Prop} {m : DevM} {w : World} (h : MuxAt B w x R lost κ mp bl) (hD : DevIs B w a ma m FD) (hi : m.Inv) (hdj : ∀ y, κ y ≠ none → ¬ FD y) (hc : ∀ r ∈ R, r.code ≠ m.p.code) :
    MuxAt B (mapMore ((w.drewN k).alloc (.cells (meterCells 0 none) 241)) mp (R.map PRow.port) (m.p.code, .agg #[.pointer (some ⟨a, 0, none⟩), .pointer (some ⟨w.heap.size, 0, none⟩)])) x (R ++ [⟨a, ma, w.heap.size, m, 0⟩]) lost (tint κ w.heap.size R.length FD) mp bl ∧
    Keep (fun y => y = mp) w (mapMore ((w.drewN k).alloc (.cells (meterCells 0 none) 241)) mp (R.map PRow.port) (m.p.code, .agg #[.pointer (some ⟨a, 0, none⟩), .pointer (some ⟨w.heap.size, 0, none⟩)])) := by
  have hlt : ∀ t y, Of κ t y → y < w.heap.size := fun t y hy => (h.lo y (by rw [show κ y = some t from hy]; simp)).2
  have hnf : ∀ t y, Of κ t y → ¬ FD y := fun t y hy => hdj y (by rw [show κ y = some t from hy]; simp)
  have hold : ∀ t y, Of κ t y → Of (tint κ w.heap.size R.length FD) t y := fun t y hy => tint_old hy (by have := hlt t y hy; omega) (hnf t y hy)
  have hk1 : Keep (fun y => y = mp) w ((w.drewN k).alloc (.cells (meterCells 0 none) 241)) := ((Keep.refl _ w).drewN k).alloc _
  have hk : Keep (fun y => y = mp) w (mapMore ((w.drewN k).alloc (.cells (meterCells 0 none) 241)) mp (R.map PRow.port) (m.p.code, .agg #[.pointer (some ⟨a, 0, none⟩), .pointer (some ⟨w.heap.size, 0, none⟩)])) :=
    hk1.trans ((MapG.keep_setObj _ mp _).mono (fun _ _ h => h))
  have hsz : (mapMore ((w.drewN k).alloc (.cells (meterCells 0 none) 241)) mp (R.map PRow.port) (m.p.code, .agg #[.pointer (some ⟨a, 0, none⟩), .pointer (some ⟨w.heap.size, 0, none⟩)])).heap.size = w.heap.size + 1 := by simp [mapMore, World.drewN]
  have hS : ∀ t y, t ≠ 1 → Of κ t y → ¬ y = mp := fun t y ht hy e => (hy.ne ht) (e ▸ h.km)
  have hmp : mp < w.heap.size := hlt 1 _ h.km
  have hmap1 : MapG.MapIs .u32 ((w.drewN k).alloc (.cells (meterCells 0 none) 241)) mp (R.map PRow.port) := (h.map.keep ((Keep.refl (fun _ => False) w).drewN k) (fun h => h)).keep ((Keep.refl (fun _ => False) _).alloc _) (fun h => h)
  have hget : ∀ i r, (R ++ [⟨a, ma, w.heap.size, m, 0⟩] : List PRow)[i]? = some r → R[i]? = some r ∨ (i = R.length ∧ r = ⟨a, ma, w.heap.size, m, 0⟩) := fun i r hr => by
    rw [List.getElem?_append] at hr
    split at hr
    · exact .inl hr
    · rename_i hn
      have : i - R.length = 0 := by
        rcases Nat.eq_zero_or_pos (i - R.length) with h0 | h0
        · exact h0
        · rw [List.getElem?_eq_none (by simp; omega)] at hr; cases hr
      rw [this] at hr
      simp at hr
      exact .inr ⟨by omega, hr.symm⟩
  have hnew : Blk ((w.drewN k).alloc (.cells (meterCells 0 none) 241)) w.heap.size 241 (meterCells 0 none) := Blk.new (w.drewN k) _ _
  refine ⟨{ blk := h.blk.keep hk (hS 0 _ (by omega) h.kx), map := ?_, lostB := h.lostB.keep hk (hS 2 _ (by omega) h.kl), seen := fun i r hr => ?_, dev := fun i r hr => ?_, kx := hold _ _ h.kx, km := hold _ _ h.km, kl := hold _ _ h.kl, lo := fun y hy => ?_, codes := ?_ }, hk⟩
  · have := hmap1.updated m.p.code (.agg #[.pointer (some ⟨a, 0, none⟩), .pointer (some ⟨w.heap.size, 0, none⟩)])
    rw [List.map_append]
    exact this
  · rcases hget i r hr with h1 | ⟨rfl, rfl⟩
    · exact ⟨(h.seen i r h1).1.keep hk (hS _ _ (by omega) (h.seen i r h1).2), hold _ _ (h.seen i r h1).2⟩
    · exact ⟨hnew.keep (MapG.keep_setObj _ mp _) (by omega), by unfold Of tint; rw [if_pos rfl]⟩
  · rcases hget i r hr with h1 | ⟨rfl, rfl⟩
    · refine ⟨?_, (h.dev i r h1).2⟩
      obtain ⟨⟨κ', c, d, v, g, val, hA, hF⟩, hl⟩ := (h.dev i r h1).1.keepS hk (fun y => hS _ y (by omega))
      refine ⟨⟨κ', c, d, v, g, val, hA, fun y hy => hold _ _ (hF y hy)⟩, fun y hy => ?_⟩
      rw [hsz]
      unfold Of tint at hy
      split at hy
      · injection hy with hy; omega
      · split at hy
        · have := hD.lo y (by assumption); omega
        · have := hl y hy; rw [hsz] at this; exact this
    · refine ⟨?_, hi⟩
      obtain ⟨⟨κ', c, d, v, g, val, hA, hF⟩, hl⟩ := hD.keepS hk (fun y hy e => hdj mp (by rw [show κ mp = some 1 from h.km]; simp) (e ▸ hy))
      refine ⟨⟨κ', c, d, v, g, val, hA, fun y hy => ?_⟩, fun y hy => ?_⟩
      · have := (hD.lo y (hF y hy)).2
        unfold Of tint
        rw [if_neg (by omega), if_pos (hF y hy)]
      · rw [hsz]
        unfold Of tint at hy
        split at hy
        · injection hy with hy; omega
        · split at hy
          · have := hD.lo y (by assumption); omega
          · have := h.lo y (by rw [show κ y = _ from hy]; simp); omega
  · rw [hsz]
    unfold tint at hy
    split at hy
    · have := h.Ble; omega
    · split at hy
      · have := hD.lo y (by assumption); omega
      · have := h.lo y hy; omega
  · rw [List.map_append, List.nodup_append]
    refine ⟨h.codes, by simp, fun c hc1 c2 hc2 e => ?_⟩
    simp [PRow.code] at hc2
    obtain ⟨r, hr, he⟩ := List.mem_map.1 hc1
    exact hc r hr (he.trans (e.trans hc2))
theorem muxAdd_new (B x a ma : Nat) (R : List PRow) (lost : Int) (F FD : Nat → Prop) (m : DevM) (w : World) (hM : MuxIs B w x R lost F) (hD : DevIs B w a ma m FD) (hi : m.Inv) (hdj : ∀ y, F y → ¬ FD y) (hc : ∀ r ∈ R, r.code ≠ m.p.code) (hl : R.length < 8) :
    Calls Tryz.prog 37 #[.pointer (some ⟨x, 0, none⟩), .pointer (some ⟨a, 0, none⟩)] w fun e w' => e = .returned (.int .i64 0) ∧ ∃ s, MuxIs B w' x (R ++ [⟨a, ma, s, m, 0⟩]) lost (grow (fun y => F y ∨ FD y) w w') ∧ Keep F w w' := by
  obtain ⟨⟨κ, mp, bl, hM, hF⟩, hlo⟩ := hM
  have hcx := hM.blk.cell
  have hmp := fun k => hM.map.keep ((Keep.refl (fun _ => False) w).drewN k) (fun h => h)
  have hlook := fun k => (hmp k).run_lookup (P := Tryz.prog) Tryz.underlying154 Tryz.underlying34 (zero_port (w.drewN k)) m.p.code
  have hlen := fun k t => (hmp k).run_len (P := Tryz.prog) Tryz.underlying154 t
  rw [lk_port_none hc] at hlook
  simp only [Option.getD_none] at hlook
  rw [List.length_map] at hlen
  have hcd := fun k => devCode_any B a ma m FD (w.drewN k) (hD.below (belowN (Below.refl w.heap.size w) k))
  have hfl := port_dev none none
  have hlt : ¬ (8 : Int) ≤ (R.length : Int) := by omega
  have Hc := Lib.hid hc
  have HM := Lib.hid hM
  have HL := Lib.hid hlo
  clear hc hmp hM
  go_enter Tryz.func37, Tryz.ntmps37
  go_wp2_with fail
  go_big_quiet ((go_at_call 82; exact Calls.quiet_of_same (hcd _)))
  go_wp2_with fail
  have hMW := HM.out.keepS ((Keep.refl (fun _ => False) w).drewN nq) (fun _ _ h => h)
  have hDW := hD.below (belowN (Below.refl w.heap.size w) nq)
  clear hlook hlen hcd hcx hD HM hlo
  have hbW := belowN (Below.refl w.heap.size w) nq
  have HsW := Lib.hid (show (w.drewN nq).heap.size = w.heap.size from rfl)
  generalize w.drewN nq = W at *
  have hcx := hMW.blk.cell
  have hcd := fun k => devCode_any B a ma m FD (W.drewN k) (hDW.below (belowN (Below.refl W.heap.size W) k))
  have hmd := hMW.map
  have hup : ∀ k, (Instr.mapUpdate 154 (.map (some mp)) (.int .u32 m.p.code) (.agg #[.pointer (some ⟨a, 0, none⟩), .pointer (some ⟨W.heap.size, 0, none⟩)])).run Tryz.prog ((W.drewN k).alloc (.cells (meterCells 0 none) 241)) = .ok () (mapMore ((W.drewN k).alloc (.cells (meterCells 0 none) 241)) mp (R.map PRow.port) (m.p.code, .agg #[.pointer (some ⟨a, 0, none⟩), .pointer (some ⟨W.heap.size, 0, none⟩)])) := fun k => ((hmd.keep ((Keep.refl (fun _ => False) W).drewN k) (fun h => h)).keep (((Keep.refl (fun _ => False) (W.drewN k)).alloc (.cells (meterCells 0 none) 241))) (fun h => h)).run_update (P := Tryz.prog) Tryz.underlying154 Tryz.underlying34 m.p.code (.agg #[.pointer (some ⟨a, 0, none⟩), .pointer (some ⟨W.heap.size, 0, none⟩)]) (lk_port_none Hc.out)
  have HA := Lib.hid (hMW.added (k := 1) hDW hi (fun y hy => hdj y (hF y hy)) Hc.out)
  have HDl := Lib.hid hDW.lo
  have hcA := fun k => ((hMW.blk.drewN k).alloc (.cells (meterCells 0 none) 241)).cell
  go_region_law (go_simp; first
    | (go_at_call 82; refine (devCode_any B a ma m FD _ (hDW.below (belowN (Below.refl W.heap.size W) _))).mono ?_; rintro e w' ⟨rfl, rfl⟩)
    | (go_at_call 83; refine (meterNew_any _).mono ?_; rintro e w' ⟨rfl, rfl⟩))
  all_goals
    (go_wp2_with fail
     refine bodyPost_ret (v := .int .i64 0) (by simp [results, Tryz.results37, go_sem]) rfl ⟨rfl, W.heap.size, ⟨⟨_, mp, bl, HA.out.1, ?_⟩, ?_⟩, ?_⟩)
  all_goals
    (have hsz : (mapMore ((W.drewN 1).alloc (.cells (meterCells 0 none) 241)) mp (R.map PRow.port) (m.p.code, .agg #[.pointer (some ⟨a, 0, none⟩), .pointer (some ⟨W.heap.size, 0, none⟩)])).heap.size = w.heap.size + 1 := by simp [mapMore, World.drewN, HsW.out]
     have hsw := HsW.out)
  all_goals first
    | (intro y hy
       unfold tint at hy
       split at hy
       · exact .inr ⟨by omega, by show y < (mapMore _ _ _ _).heap.size; rw [hsz]; omega⟩
       · split at hy
         · exact .inl (.inr (by assumption))
         · exact .inl (.inl (hF y hy)))
    | (intro y hy
       show B ≤ y ∧ y < (mapMore _ _ _ _).heap.size
       rw [hsz]
       have hb := hMW.Ble
       rcases hy with (hy | hy) | ⟨h1, h2⟩
       · have := HL.out y hy; omega
       · have := HDl.out y hy; omega
       · have h3 : y < (mapMore ((W.drewN 1).alloc (.cells (meterCells 0 none) 241)) mp (R.map PRow.port) (m.p.code, .agg #[.pointer (some ⟨a, 0, none⟩), .pointer (some ⟨W.heap.size, 0, none⟩)])).heap.size := h2
         rw [hsz] at h3
         omega)
    | exact (Keep.of_below hbW).trans (HA.out.2.mono (fun y _ hy => hy ▸ hF _ (by rw [show κ mp = some 1 from hMW.km]; simp)))
end Go.Proofs.YtlldgfejcjnpkaaGreat
