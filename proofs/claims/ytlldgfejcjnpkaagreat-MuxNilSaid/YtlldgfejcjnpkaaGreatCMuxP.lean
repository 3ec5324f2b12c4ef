/- The contracts of package mux: New, Lost, Seen, and a nil mux. -/
import Derived.Test.YtlldgfejcjnpkaaGreatCMuxM
set_option linter.unusedVariables false
namespace Go.Proofs.YtlldgfejcjnpkaaGreat
open Go.RowKit
set_option maxHeartbeats 10000000
set_option maxRecDepth 100000

theorem zero_port (w : World) : (zeroValue 160).run Tryz.prog w = .ok (.agg #[.pointer none, .pointer none]) w := by kernel_rfl
theorem port_dev (a s : Option Addr) (w : World) : (Instr.field 160 (.agg #[.pointer a, .pointer s]) 0).run Tryz.prog w = .ok (.pointer a) w := by kernel_rfl
theorem port_seen (a s : Option Addr) (w : World) : (Instr.field 160 (.agg #[.pointer a, .pointer s]) 1).run Tryz.prog w = .ok (.pointer s) w := by kernel_rfl
theorem lk_port {R : List PRow} (hn : (R.map PRow.code).Nodup) {i : Nat} {r : PRow} (hr : R[i]? = some r) : MapG.lk (R.map PRow.port) r.code = some (.agg #[.pointer (some ⟨r.a, 0, none⟩), .pointer (some ⟨r.s, 0, none⟩)]) := by
  refine MapG.lk_of_mem ?_ (List.mem_map.2 ⟨r, List.mem_of_getElem? hr, rfl⟩)
  rw [List.map_map]
  exact hn
theorem lk_port_none {R : List PRow} {c : Int} (h : ∀ r ∈ R, r.code ≠ c) : MapG.lk (R.map PRow.port) c = none := by
  rw [MapG.lk_none]
  intro hm
  rw [List.map_map] at hm
  obtain ⟨r, hr, he⟩ := List.mem_map.1 hm
  exact h r hr he
theorem muxNew_any (B : Nat) (w : World) (hB : B ≤ w.heap.size) : Calls Tryz.prog 38 #[] w fun e w' => ∃ x, e = .returned (.pointer (some ⟨x, 0, none⟩)) ∧ MuxIs B w' x [] 0 (fun y => w.heap.size ≤ y ∧ y < w'.heap.size) ∧ Below w.heap.size w w' := by
  have hmm := @run_makeMap Tryz.prog
  go_enter Tryz.func38, Tryz.ntmps38
  go_wp2_with fail
  refine (meterNew_any _).mono ?_
  rintro e w' ⟨rfl, rfl⟩
  go_wp2_with fail
  go_ret
  have hsz : (((w.alloc (.map #[] 0)).alloc (.cells (meterCells 0 none) 241)).alloc (.cells #[.map (some w.heap.size), .pointer (some ⟨w.heap.size + 1, 0, none⟩)] 157)).heap.size = w.heap.size + 3 := by simp
  have hb := (((Below.refl _ w).alloc (Nat.le_refl _) (.map #[] 0)).alloc (by simp) (.cells (meterCells 0 none) 241)).alloc (by simp; omega) (.cells #[.map (some w.heap.size), .pointer (some ⟨w.heap.size + 1, 0, none⟩)] 157)
  refine ⟨w.heap.size + 2, by simp, ⟨⟨fun y => if y = w.heap.size + 2 then some 0 else if y = w.heap.size then some 1 else if y = w.heap.size + 1 then some 2 else none, w.heap.size, w.heap.size + 1, ?_, fun y hy => ?_⟩, fun y hy => ?_⟩, hb⟩
  · refine { blk := Blk.new' _ _ _ (by simp), map := ?_, lostB := (Blk.new' _ _ _ (by simp)).alloc _, seen := fun i r h => by simp at h, dev := fun i r h => by simp at h, kx := by simp [Of], km := by simp [Of], kl := by simp [Of], lo := fun y hy => ?_, codes := by simp }
    · show (((w.heap.push (.map #[] 0)).push _).push _)[w.heap.size]? = _
      rw [Array.getElem?_push_lt (by simp; omega), Array.getElem_push_lt (by simp), Array.getElem_push_eq]
      rfl
    · rw [hsz]
      split at hy
      · omega
      · split at hy
        · omega
        · split at hy
          · omega
          · exact absurd rfl hy
  · rw [hsz]
    dsimp only at hy
    split at hy
    · omega
    · split at hy
      · omega
      · split at hy
        · omega
        · exact absurd rfl hy
  · omega
theorem muxLost_any (B x : Nat) (R : List PRow) (lost : Int) (F : Nat → Prop) (w : World) (hM : MuxIs B w x R lost F) (hl : 0 ≤ lost ∧ lost < 4294967296) :
    Calls Tryz.prog 40 #[.pointer (some ⟨x, 0, none⟩)] w fun e w' => e = .returned (.int .i64 lost) ∧ w' = w := by
  obtain ⟨⟨κ, mp, bl, hM, hF⟩, hlo⟩ := hM
  have hc := hM.blk.cell
  have hw : IntKind.i64.wrap lost = lost := IntWalk.i64_in _ (by omega)
  go_enter Tryz.func40, Tryz.ntmps40
  go_wp2_with fail
  refine (meterTotal_any bl lost none w hM.lostB).mono ?_
  rintro e w' ⟨rfl, rfl⟩
  go_wp2_with fail
  go_ret
  exact ⟨rfl, rfl⟩
theorem muxSeen_any (B x : Nat) (R : List PRow) (lost : Int) (F : Nat → Prop) (w : World) (hM : MuxIs B w x R lost F) {i : Nat} {r : PRow} (hr : R[i]? = some r) (hs : 0 ≤ r.seen ∧ r.seen < 4294967296) :
    Calls Tryz.prog 39 #[.pointer (some ⟨x, 0, none⟩), .int .u32 r.code] w fun e w' => e = .returned (.int .i64 r.seen) ∧ w' = w := by
  obtain ⟨⟨κ, mp, bl, hM, hF⟩, hlo⟩ := hM
  have hc := hM.blk.cell
  have hlook := hM.map.run_lookup (P := Tryz.prog) Tryz.underlying154 Tryz.underlying34 (zero_port w) r.code
  rw [lk_port hM.codes hr] at hlook
  have hse := (hM.seen i r hr).1
  have hfl := port_seen (some ⟨r.a, 0, none⟩) (some ⟨r.s, 0, none⟩) w
  have hw : IntKind.i64.wrap r.seen = r.seen := IntWalk.i64_in _ (by omega)
  clear hM hF hlo
  go_enter Tryz.func39, Tryz.ntmps39
  go_wp2_with fail
  refine (meterTotal_any r.s r.seen none w hse).mono ?_
  rintro e w' ⟨rfl, rfl⟩
  go_wp2_with fail
  go_ret
  exact ⟨rfl, rfl⟩
theorem muxSeen_none (B x : Nat) (R : List PRow) (lost : Int) (F : Nat → Prop) (w : World) (hM : MuxIs B w x R lost F) (c : Int) (hr : ∀ r ∈ R, r.code ≠ c) :
    Calls Tryz.prog 39 #[.pointer (some ⟨x, 0, none⟩), .int .u32 c] w fun e w' => e = .returned (.int .i64 0) ∧ w' = w := by
  obtain ⟨⟨κ, mp, bl, hM, hF⟩, hlo⟩ := hM
  have hc := hM.blk.cell
  have hlook := hM.map.run_lookup (P := Tryz.prog) Tryz.underlying154 Tryz.underlying34 (zero_port w) c
  rw [lk_port_none hr] at hlook
  have hfl := port_seen none none w
  clear hM hF hlo hr
  go_enter Tryz.func39, Tryz.ntmps39
  go_wp2_with fail
  refine (meterTotal_nil w).mono ?_
  rintro e w' ⟨rfl, rfl⟩
  go_wp2_with fail
  go_ret
  exact ⟨rfl, rfl⟩
theorem muxSeen_nil (c : Int) (w : World) : Calls Tryz.prog 39 #[.pointer none, .int .u32 c] w fun e w' => e = .returned (.int .i64 0) ∧ w' = w := by
  go_enter Tryz.func39, Tryz.ntmps39
  go_wp2_with fail
  go_ret
  exact ⟨rfl, rfl⟩
theorem muxLost_nil (w : World) : Calls Tryz.prog 40 #[.pointer none] w fun e w' => e = .returned (.int .i64 0) ∧ w' = w := by
  go_enter Tryz.func40, Tryz.ntmps40
  go_wp2_with fail
  go_ret
  exact ⟨rfl, rfl⟩
theorem muxTick_nil (n : Int) (w : World) : Calls Tryz.prog 32 #[.pointer none, .int .i64 n] w fun e w' => e = .returned (.int .i64 1) ∧ w' = w := by
  go_enter Tryz.func32, Tryz.ntmps32
  go_wp2_with fail
  go_ret
  exact ⟨rfl, rfl⟩
theorem muxTick_neg (x : Nat) (n : Int) (hn : n < 0) (w : World) : Calls Tryz.prog 32 #[.pointer (some ⟨x, 0, none⟩), .int .i64 n] w fun e w' => e = .returned (.int .i64 2) ∧ w' = w := by
  have h1 : decide (n < 0) = true := by simpa using hn
  go_enter Tryz.func32, Tryz.ntmps32
  go_wp2_with fail
  go_ret
  exact ⟨rfl, rfl⟩
theorem muxCodes_nil (w : World) : Calls Tryz.prog 28 #[.pointer none] w fun e w' => e = .returned (.slice none 0 0) ∧ w' = w := by
  go_enter Tryz.func28, Tryz.ntmps28
  go_wp2_with fail
  go_ret
  exact ⟨rfl, rfl⟩
theorem muxOn_nil (w : World) : Calls Tryz.prog 41 #[.pointer none] w fun e w' => e = .returned (.slice none 0 0) ∧ w' = w := by
  go_enter Tryz.func41, Tryz.ntmps41
  go_wp2_with fail
  refine (muxCodes_nil w).mono ?_
  rintro e w' ⟨rfl, rfl⟩
  go_wp2_with fail
  refine wp_loop_rounds 1 ?_
  rw [rounds_succ]
  go_wp2_with fail
  go_ret
  exact ⟨rfl, rfl⟩
theorem muxReceive_nil (v : Value) (w : World) : Calls Tryz.prog 35 #[.pointer none, v] w fun e w' => e = .returned (.tuple #[.int .u32 0, .slice none 0 0, .int .i64 1]) ∧ w' = w := by
  go_enter Tryz.func35, Tryz.ntmps35
  go_wp2_with fail
  exact bodyPost_ret (v := .tuple #[.int .u32 0, .slice none 0 0, .int .i64 1]) (by simp [results, Tryz.results35, go_sem]) rfl ⟨rfl, rfl⟩
theorem muxAdd_nil (v : Value) (w : World) : Calls Tryz.prog 37 #[.pointer none, v] w fun e w' => e = .returned (.int .i64 1) ∧ w' = w := by
  go_enter Tryz.func37, Tryz.ntmps37
  go_wp2_with fail
  go_ret
  exact ⟨rfl, rfl⟩
theorem muxAdd_nildev (x : Nat) (w : World) : Calls Tryz.prog 37 #[.pointer (some ⟨x, 0, none⟩), .pointer none] w fun e w' => e = .returned (.int .i64 1) ∧ w' = w := by
  go_enter Tryz.func37, Tryz.ntmps37
  go_wp2_with fail
  go_ret
  exact ⟨rfl, rfl⟩
end Go.Proofs.YtlldgfejcjnpkaaGreat
