/- Between the base and the laws, part 2: contracts and plain lemmas, no statement. -/
import Derived.Test.YtlldgfejcjnpkaaGreatBase14
import Derived.Test.YtlldgfejcjnpkaaGreatBase2
import Derived.Test.YtlldgfejcjnpkaaGreatBase7
import Derived.Test.YtlldgfejcjnpkaaGreatMid1
set_option linter.unusedVariables false
/- The contracts of package mux: New, Lost, Seen, and a nil mux. -/
namespace Go.Proofs.YtlldgfejcjnpkaaGreat
open Go.RowKit
set_option maxHeartbeats 10000000
set_option maxRecDepth 100000

theorem zero_port (w : World) : (zeroValue 160).run Tryz.prog w = .ok (.agg #[.pointer none, .pointer none]) w := by kernel_rfl
theorem port_dev (a s : Option Addr) (w : World) : (Instr.field 160 (.agg #[.pointer a, .pointer s]) 0).run Tryz.prog w = .ok (.pointer a) w := by kernel_rfl
theorem port_seen (a s : Option Addr) (w : World) : (Instr.field 160 (.agg #[.pointer a, .pointer s]) 1).run Tryz.prog w = .ok (.pointer s) w := by kernel_rfl
theorem lk_port {R : List PRow} (hn : (R.map PRow.code).Nodup) {i : Nat} {r : PRow} (hr : R[i]? = some r) : MapG.lk (R.map PRow.port) r.code = some (.agg #[.pointer (some ⟨r.a, 0, none⟩), .pointer (some ⟨r.s, 0, none⟩)]) := by
  refine MapG.lk_of_mem ?_ (List.mem_map.2 ⟨r, List.mem_of_getElem? hr, rfl⟩)
  rw [List.map_map]
  exact hn
theorem lk_port_none {R : List PRow} {c : Int} (h : ∀ r ∈ R, r.code ≠ c) : MapG.lk (R.map PRow.port) c = none := by
  rw [MapG.lk_none]
  intro hm
  rw [List.map_map] at hm
  obtain ⟨r, hr, he⟩ := List.mem_map.1 hm
  exact h r hr he
theorem muxNew_any (B : Nat) (w : World) (hB : B ≤ w.heap.size) : Calls Tryz.prog 38 #[] w fun e w' => ∃ x, e = .returned (.pointer (some ⟨x, 0, none⟩)) ∧ MuxIs B w' x [] 0 (fun y => w.heap.size ≤ y ∧ y < w'.heap.size) ∧ Below w.heap.size w w' := by
  have hmm := @run_makeMap Tryz.prog
  go_enter Tryz.func38, Tryz.ntmps38
  go_wp2_with fail
  refine (meterNew_any _).mono ?_
  rintro e w' ⟨rfl, rfl⟩
  go_wp2_with fail
  go_ret
  have hsz : (((w.alloc (.map #[] 0)).alloc (.cells (meterCells 0 none) 241)).alloc (.cells #[.map (some w.heap.size), .pointer (some ⟨w.heap.size + 1, 0, none⟩)] 157)).heap.size = w.heap.size + 3 := by simp
  have hb := (((Below.refl _ w).alloc (Nat.le_refl _) (.map #[] 0)).alloc (by simp) (.cells (meterCells 0 none) 241)).alloc (by simp; omega) (.cells #[.map (some w.heap.size), .pointer (some ⟨w.heap.size + 1, 0, none⟩)] 157)
  refine ⟨w.heap.size + 2, by simp, ⟨⟨fun y => if y = w.heap.size + 2 then some 0 else if y = w.heap.size then some 1 else if y = w.heap.size + 1 then some 2 else none, w.heap.size, w.heap.size + 1, ?_, fun y hy => ?_⟩, fun y hy => ?_⟩, hb⟩
  · refine { blk := Blk.new' _ _ _ (by simp), map := ?_, lostB := (Blk.new' _ _ _ (by simp)).alloc _, seen := fun i r h => by simp at h, dev := fun i r h => by simp at h, kx := by simp [Of], km := by simp [Of], kl := by simp [Of], lo := fun y hy => ?_, codes := by simp }
    · show (((w.heap.push (.map #[] 0)).push _).push _)[w.heap.size]? = _
      rw [Array.getElem?_push_lt (by simp; omega), Array.getElem_push_lt (by simp), Array.getElem_push_eq]
      rfl
    · rw [hsz]
      split at hy
      · omega
      · split at hy
        · omega
        · split at hy
          · omega
          · exact absurd rfl hy
  · rw [hsz]
    dsimp only at hy
    split at hy
    · omega
    · split at hy
      · omega
      · split at hy
        · omega
        · exact absurd rfl hy
  · omega
theorem muxLost_any (B x : Nat) (R : List PRow) (lost : Int) (F : Nat → Prop) (w : World) (hM : MuxIs B w x R lost F) (hl : 0 ≤ lost ∧ lost < 4294967296) :
    Calls Tryz.prog 40 #[.pointer (some ⟨x, 0, none⟩)] w fun e w' => e = .returned (.int .i64 lost) ∧ w' = w := by
  obtain ⟨⟨κ, mp, bl, hM, hF⟩, hlo⟩ := hM
  have hc := hM.blk.cell
  have hw : IntKind.i64.wrap lost = lost := IntWalk.i64_in _ (by omega)
  go_enter Tryz.func40, Tryz.ntmps40
  go_wp2_with fail
  refine (meterTotal_any bl lost none w hM.lostB).mono ?_
  rintro e w' ⟨rfl, rfl⟩
  go_wp2_with fail
  go_ret
  exact ⟨rfl, rfl⟩
theorem muxSeen_any (B x : Nat) (R : List PRow) (lost : Int) (F : Nat → Prop) (w : World) (hM : MuxIs B w x R lost F) {i : Nat} {r : PRow} (hr : R[i]? = some r) (hs : 0 ≤ r.seen ∧ r.seen < 4294967296) :
    Calls Tryz.prog 39 #[.pointer (some ⟨x, 0, none⟩), .int .u32 r.code] w fun e w' => e = .returned (.int .i64 r.seen) ∧ w' = w := by
  obtain ⟨⟨κ, mp, bl, hM, hF⟩, hlo⟩ := hM
  have hc := hM.blk.cell
  have hlook := hM.map.run_lookup (P := Tryz.prog) Tryz.underlying154 Tryz.underlying34 (zero_port w) r.code
  rw [lk_port hM.codes hr] at hlook
  have hse := (hM.seen i r hr).1
  have hfl := port_seen (some ⟨r.a, 0, none⟩) (some ⟨r.s, 0, none⟩) w
  have hw : IntKind.i64.wrap r.seen = r.seen := IntWalk.i64_in _ (by omega)
  clear hM hF hlo
  go_enter Tryz.func39, Tryz.ntmps39
  go_wp2_with fail
  refine (meterTotal_any r.s r.seen none w hse).mono ?_
  rintro e w' ⟨rfl, rfl⟩
  go_wp2_with fail
  go_ret
  exact ⟨rfl, rfl⟩
theorem muxSeen_none (B x : Nat) (R : List PRow) (lost : Int) (F : Nat → Prop) (w : World) (hM : MuxIs B w x R lost F) (c : Int) (hr : ∀ r ∈ R, r.code ≠ c) :
    Calls Tryz.prog 39 #[.pointer (some ⟨x, 0, none⟩), .int .u32 c] w fun e w' => e = .returned (.int .i64 0) ∧ w' = w := by
  obtain ⟨⟨κ, mp, bl, hM, hF⟩, hlo⟩ := hM
  have hc := hM.blk.cell
  have hlook := hM.map.run_lookup (P := Tryz.prog) Tryz.underlying154 Tryz.underlying34 (zero_port w) c
  rw [lk_port_none hr] at hlook
  have hfl := port_seen none none w
  clear hM hF hlo hr
  go_enter Tryz.func39, Tryz.ntmps39
  go_wp2_with fail
  refine (meterTotal_nil w).mono ?_
  rintro e w' ⟨rfl, rfl⟩
  go_wp2_with fail
  go_ret
  exact ⟨rfl, rfl⟩
theorem muxSeen_nil (c : Int) (w : World) : Calls Tryz.prog 39 #[.pointer none, .int .u32 c] w fun e w' => e = .returned (.int .i64 0) ∧ w' = w := by
  go_enter Tryz.func39, Tryz.ntmps39
  go_wp2_with fail
  go_ret
  exact ⟨rfl, rfl⟩
theorem muxLost_nil (w : World) : Calls Tryz.prog 40 #[.pointer none] w fun e w' => e = .returned (.int .i64 0) ∧ w' = w := by
  go_enter Tryz.func40, Tryz.ntmps40
  go_wp2_with fail
  go_ret
  exact ⟨rfl, rfl⟩
theorem muxTick_nil (n : Int) (w : World) : Calls Tryz.prog 32 #[.pointer none, .int .i64 n] w fun e w' => e = .returned (.int .i64 1) ∧ w' = w := by
  go_enter Tryz.func32, Tryz.ntmps32
  go_wp2_with fail
  go_ret
  exact ⟨rfl, rfl⟩
theorem muxTick_neg (x : Nat) (n : Int) (hn : n < 0) (w : World) : Calls Tryz.prog 32 #[.pointer (some ⟨x, 0, none⟩), .int .i64 n] w fun e w' => e = .returned (.int .i64 2) ∧ w' = w := by
  have h1 : decide (n < 0) = true := by simpa using hn
  go_enter Tryz.func32, Tryz.ntmps32
  go_wp2_with fail
  go_ret
  exact ⟨rfl, rfl⟩
theorem muxCodes_nil (w : World) : Calls Tryz.prog 28 #[.pointer none] w fun e w' => e = .returned (.slice none 0 0) ∧ w' = w := by
  go_enter Tryz.func28, Tryz.ntmps28
  go_wp2_with fail
  go_ret
  exact ⟨rfl, rfl⟩
theorem muxOn_nil (w : World) : Calls Tryz.prog 41 #[.pointer none] w fun e w' => e = .returned (.slice none 0 0) ∧ w' = w := by
  go_enter Tryz.func41, Tryz.ntmps41
  go_wp2_with fail
  refine (muxCodes_nil w).mono ?_
  rintro e w' ⟨rfl, rfl⟩
  go_wp2_with fail
  refine wp_loop_rounds 1 ?_
  rw [rounds_succ]
  go_wp2_with fail
  go_ret
  exact ⟨rfl, rfl⟩
theorem muxReceive_nil (v : Value) (w : World) : Calls Tryz.prog 35 #[.pointer none, v] w fun e w' => e = .returned (.tuple #[.int .u32 0, .slice none 0 0, .int .i64 1]) ∧ w' = w := by
  go_enter Tryz.func35, Tryz.ntmps35
  go_wp2_with fail
  exact bodyPost_ret (v := .tuple #[.int .u32 0, .slice none 0 0, .int .i64 1]) (by simp [results, Tryz.results35, go_sem]) rfl ⟨rfl, rfl⟩
theorem muxAdd_nil (v : Value) (w : World) : Calls Tryz.prog 37 #[.pointer none, v] w fun e w' => e = .returned (.int .i64 1) ∧ w' = w := by
  go_enter Tryz.func37, Tryz.ntmps37
  go_wp2_with fail
  go_ret
  exact ⟨rfl, rfl⟩
theorem muxAdd_nildev (x : Nat) (w : World) : Calls Tryz.prog 37 #[.pointer (some ⟨x, 0, none⟩), .pointer none] w fun e w' => e = .returned (.int .i64 1) ∧ w' = w := by
  go_enter Tryz.func37, Tryz.ntmps37
  go_wp2_with fail
  go_ret
  exact ⟨rfl, rfl⟩
end Go.Proofs.YtlldgfejcjnpkaaGreat
/- The flags of what a device answers: plain. -/
namespace Go.Proofs.YtlldgfejcjnpkaaGreat
namespace DevM
/-- What is decoded out of an encoded unit is that unit. -/
theorem enc_dec {v u : UnitM} (ho : v.Ok) (h : decodeM v.encode = (u, 0)) : u = v := by
  rcases Classical.em (v.lawful = 0) with hl | hl
  · rw [decode_encode hl ho] at h
    exact (Prod.mk.inj h).1.symm
  · have e : v.encode = [] := by unfold UnitM.encode; rw [if_neg hl]
    rw [e] at h
    simp [decodeM] at h
/-- What a call that answers a frame does to the application's value, and what its frame tells. -/
structure FAns (d : DevM) (r : DevM × List UInt8 × Int) : Prop where
  p : r.1.p = d.p
  cut : r.2.2 = 70 → r.1.state = 6 ∧ r.1.value = List.replicate d.p.inn.toNat 0 ∧ r.1.hold = false
  keep : r.2.2 ≠ 70 → r.1.value = d.value ∧ r.1.hold = d.hold ∧ r.1.state ≠ 6
  data : r.2.2 = 0 → ∀ u, decodeM r.2.1 = (u, 0) → u.kind = 20 → u.flags = flagsM r.1.valve r.1.hold ∧ u.data = r.1.value ∧ u.number = r.1.sent
theorem strange_same (d : DevM) : d.strange.1.p = d.p ∧ d.strange.1.value = d.value ∧ d.strange.1.hold = d.hold ∧ (d.state ≠ 6 → d.strange.1.state ≠ 6) := by
  unfold strange
  split
  · exact ⟨rfl, rfl, rfl, id⟩
  · simp only
    split
    · exact ⟨rfl, rfl, rfl, id⟩
    · split
      · exact ⟨rfl, rfl, rfl, fun _ => by show (1 : Int) ≠ 6; omega⟩
      · exact ⟨rfl, rfl, rfl, fun _ => by show (1 : Int) ≠ 6; omega⟩
theorem fans_odds {d : DevM} (h6 : d.state ≠ 6) (e : Int) (he : e ≠ 0) (h70 : e ≠ 70) : FAns d (d.odds e) :=
  ⟨d.strange_same.1, fun h => absurd h h70, fun _ => ⟨d.strange_same.2.1, d.strange_same.2.2.1, d.strange_same.2.2.2 h6⟩, fun h => absurd h he⟩
theorem frame_ok {d : DevM} (h : d.Inv) (k n f : Int) (data : List UInt8) (hn : 0 ≤ n ∧ n < 4294967296) : (UnitM.mk k d.p.code d.session n f data).Ok := ⟨h.pok.code, h.session, hn⟩
theorem fans_begin {d : DevM} (h : d.Inv) : FAns d d.begin_ := by
  have hb := h.begin_
  have he := next_err d.cell d.m
  unfold begin_ at hb ⊢
  generalize d.cell.next d.m = r at *
  obtain ⟨c, m', s, e⟩ := r
  simp only at *
  rcases he with rfl | rfl | rfl
  · simp only [show ¬ ((0 : Int) = 80) by omega, if_false, ne_eq, not_true_eq_false] at hb ⊢
    refine ⟨rfl, fun h => by simp at h, fun _ => ⟨rfl, rfl, by show (2 : Int) ≠ 6; omega⟩, fun _ u hu hk => ?_⟩
    have := enc_dec (frame_ok hb 17 0 0 _ (by omega)) hu
    rw [this] at hk
    simp at hk
  · simp only [show ¬ ((70 : Int) = 80) by omega, if_false, ne_eq, show ¬ ((70 : Int) = 0) by omega, not_false_eq_true, if_true] at hb ⊢
    exact ⟨rfl, fun _ => ⟨rfl, rfl, rfl⟩, fun h => absurd rfl h, fun h => by simp at h⟩
  · simp only [if_true] at hb ⊢
    exact ⟨rfl, fun h => by simp at h, fun _ => ⟨rfl, rfl, by show (5 : Int) ≠ 6; omega⟩, fun h => by simp at h⟩
theorem FAns.of {d g : DevM} {r : DevM × List UInt8 × Int} (h : FAns g r) (hp : g.p = d.p) (hv : g.value = d.value) (hh : g.hold = d.hold) : FAns d r :=
  ⟨h.p.trans hp, fun e => by rw [← hp]; exact h.cut e, fun e => by rw [← hv, ← hh]; exact h.keep e, h.data⟩
theorem fans_wish {d : DevM} (h : d.Inv) (h6 : d.state ≠ 6) : FAns d d.wish := by
  have hs := d.strange_same
  unfold wish
  split
  · simp only
    split
    · exact (fans_begin h.strange).of hs.1 hs.2.1 hs.2.2.1
    · split
      · exact ⟨hs.1, fun e => by simp at e, fun _ => ⟨hs.2.1, hs.2.2.1, hs.2.2.2 h6⟩, fun e => by simp at e⟩
      · exact ⟨hs.1, fun e => by simp at e, fun _ => ⟨hs.2.1, hs.2.2.1, hs.2.2.2 h6⟩, fun e => by simp at e⟩
  · exact fans_begin h
theorem fans_take {d : DevM} (h : d.Inv) (h6 : d.state ≠ 6) {u : UnitM} (hn : 0 ≤ u.number ∧ u.number < 4294967296) : FAns d (d.take u) := by
  have ht := h.take hn
  have hp8 := h.p8
  unfold take at ht ⊢
  split
  · split
    · exact fans_wish h h6
    · exact fans_odds h6 91 (by omega) (by omega)
  rename_i k1
  rw [if_neg k1] at ht
  split
  · rename_i k2
    rw [if_pos k2] at ht
    split
    · exact fans_odds h6 91 (by omega) (by omega)
    · rename_i k3
      rw [if_neg k3] at ht
      simp only at ht ⊢
      by_cases hs : d.state = 2
      · rw [if_pos hs] at ht ⊢
        refine ⟨rfl, fun e => by simp at e, fun _ => ⟨rfl, rfl, by show (3 : Int) ≠ 6; omega⟩, fun _ v hv hk => ?_⟩
        have := enc_dec (frame_ok ht 18 0 0 [] (by omega)) hv
        rw [this] at hk
        simp at hk
      · rw [if_neg hs] at ht ⊢
        refine ⟨rfl, fun e => by simp at e, fun _ => ⟨rfl, rfl, h6⟩, fun _ v hv hk => ?_⟩
        have := enc_dec (frame_ok ht 18 0 0 [] (by omega)) hv
        rw [this] at hk
        simp at hk
  rename_i k2
  rw [if_neg k2] at ht
  split
  · rename_i k3
    rw [if_pos k3] at ht
    simp only at ht ⊢
    by_cases hs : d.state = 3
    · rw [if_pos hs] at ht ⊢
      refine ⟨rfl, fun e => by simp at e, fun _ => ⟨rfl, rfl, by show (4 : Int) ≠ 6; omega⟩, fun _ v hv hk => ?_⟩
      have := enc_dec (frame_ok ht 19 0 0 [] (by omega)) hv
      rw [this] at hk
      simp at hk
    · rw [if_neg hs] at ht ⊢
      refine ⟨rfl, fun e => by simp at e, fun _ => ⟨rfl, rfl, h6⟩, fun _ v hv hk => ?_⟩
      have := enc_dec (frame_ok ht 19 0 0 [] (by omega)) hv
      rw [this] at hk
      simp at hk
  rename_i k3
  rw [if_neg k3] at ht
  split
  · rename_i k4
    rw [if_pos k4] at ht
    simp only at ht ⊢
    refine ⟨rfl, fun e => by simp at e, fun _ => ⟨rfl, rfl, h6⟩, fun _ v hv _ => ?_⟩
    have hsn := h.sent
    have hnn := k4.2.2.2.1
    have := enc_dec (v := UnitM.mk 20 d.p.code d.session (d.sent + 1) _ d.value) ⟨h.pok.code, h.session, ⟨by show 0 ≤ d.sent + 1; omega, by show d.sent + 1 < 4294967296; omega⟩⟩ hv
    rw [this]
    exact ⟨rfl, rfl, rfl⟩
  rename_i k4
  rw [if_neg k4] at ht
  split
  · rename_i k5
    rw [if_pos k5] at ht
    simp only at ht ⊢
    refine ⟨rfl, fun e => by simp at e, fun _ => ⟨rfl, rfl, by show (5 : Int) ≠ 6; omega⟩, fun _ v hv hk => ?_⟩
    have hct := h.pok.count
    have := enc_dec (v := UnitM.mk 21 d.p.code d.session d.p.count 0 []) ⟨h.pok.code, h.session, hct⟩ hv
    rw [this] at hk
    simp at hk
  · exact fans_odds h6 130 (by omega) (by omega)
/-- A frame is not cut off by the power. -/
theorem decode_err2 (l : List UInt8) : (decodeM l).2 ≠ 70 := by
  unfold decodeM
  split
  · simp
  split
  · simp
  split
  · simp
  · simp only
    have h : (if (unitOf l).lawful ≠ 43 ∧ (unitOf l).lawful ≠ 44 ∧ (l.getD 14 0).toNat ≠ (unitOf l).data.length then (45 : Int) else (unitOf l).lawful) ≠ 70 := by
      split
      · simp
      · unfold UnitM.lawful
        split
        · simp
        split
        · simp
        split
        · simp
        split
        · simp
        split
        · simp
        split
        · simp
        · simp
    generalize (if (unitOf l).lawful ≠ 43 ∧ (unitOf l).lawful ≠ 44 ∧ (l.getD 14 0).toNat ≠ (unitOf l).data.length then (45 : Int) else (unitOf l).lawful) = e at h
    split
    · exact h
    · simp
theorem fans_receive {d : DevM} (h : d.Inv) (h6 : d.state ≠ 6) (b : List UInt8) : FAns d (d.receive b) := by
  have hd := decode_ok b
  have hr : FAns d (d.read b) := by
    unfold read
    simp only
    split
    · rename_i he
      have h70 : (decodeM b).2 ≠ 70 := decode_err2 b
      exact ⟨rfl, fun e => absurd e h70, fun _ => ⟨rfl, rfl, h6⟩, fun e => absurd e he⟩
    split
    · exact ⟨rfl, fun e => by simp at e, fun _ => ⟨rfl, rfl, h6⟩, fun e => by simp at e⟩
    split
    · exact ⟨rfl, fun e => by simp at e, fun _ => ⟨rfl, rfl, h6⟩, fun e => by simp at e⟩
    · exact fans_take h h6 hd.2.1
  unfold receive
  rw [if_neg h6]
  simp only
  split
  · exact hr
  · rename_i hn
    exact ⟨hr.p, fun e => absurd (.inr e) hn, hr.keep, fun e => absurd (.inl e) hn⟩
end DevM
end Go.Proofs.YtlldgfejcjnpkaaGreat
/- The contract of mux.Receive. -/
namespace Go.Proofs.YtlldgfejcjnpkaaGreat
open Go.RowKit
set_option maxHeartbeats 10000000
set_option maxRecDepth 100000

theorem dreceive_p {m : DevM} (hi : m.Inv) (l : List UInt8) : (m.receive l).1.p = m.p := by
  by_cases h6 : m.state = 6
  · rw [down_receive l h6]
  · exact (DevM.fans_receive hi h6 l).p
def portCells (a s : Nat) : Array Value := #[.pointer (some ⟨a, 0, none⟩), .pointer (some ⟨s, 0, none⟩)]
theorem muxReceive_ok (B x : Nat) (R : List PRow) (lost : Int) (F : Nat → Prop) (A : Option Addr) (n c Br : Nat) (l : List UInt8) (w : World) (hM : MuxIs B w x R lost F) {i : Nat} {r : PRow} (hri : R[i]? = some r) (hs : 0 ≤ r.seen ∧ r.seen < 4294967295) (hlen : r.m.log.length < 1073741800)
    (he : (decodeM l).2 = 0) (hcode : r.code = (decodeM l).1.code) (hr : w.ownsRow Br 5 1 (.slice A n c) n (u8c l)) (hAF : ∀ y, (Value.slice A n c).ownBlock = some y → ¬ F y) (hn : n ≤ 140737488351232) :
    Calls Tryz.prog 35 #[.pointer (some ⟨x, 0, none⟩), .slice A n c] w fun e w' => ∃ v, e = .returned (.tuple #[.int .u32 r.code, v, .int .i64 (r.m.receive l).2.2]) ∧ w'.ownsRow w.heap.size 5 1 v (r.m.receive l).2.1.length (u8c (r.m.receive l).2.1) ∧ MuxTo B w x (R.set i { r with m := (r.m.receive l).1, seen := r.seen + 1 }) lost F w' := by
  have hc := own_cap hr
  have hdec := unitDecode_any A n c w.heap.size l w (Reads.of_own hr) (Nat.le_refl _) hc hn
  obtain ⟨⟨κ, mp, bl, hM, hF⟩, hlo⟩ := hM
  have hin := (hM.dev i r hri).2.receive l
  have hpp := dreceive_p (hM.dev i r hri).2 l
  have hrv := fun (W : World) (h : MuxAt B W x (R.set i { r with seen := r.seen + 1 }) lost κ mp bl) (hr : Reads W W.heap.size 1 A n (u8c l)) =>
    devReceive_any B r.a r.ma r.m (Of κ (2 * i + 11)) A n c W.heap.size l W (h.dev i { r with seen := r.seen + 1 } (by rw [List.getElem?_set]; simp [(List.getElem?_eq_some_iff.1 hri).1])).1 (hM.dev i r hri).2 hlen hr (Nat.le_refl _) hc hn
  generalize hq : r.m.receive l = q at *
  have Hhr := Lib.hid hr
  generalize decodeM l = d at *
  obtain ⟨⟨kind, code, session, number, flags, data⟩, er⟩ := d
  simp only at he hcode hdec
  subst he hcode
  obtain ⟨q1, q2, q3⟩ := q
  simp only at *
  go_enter Tryz.func35, Tryz.ntmps35
  go_wp2_with fail
  refine hdec.mono ?_
  rintro e w1 ⟨v, rfl, hown, hb1⟩
  obtain ⟨Av, cv, rfl⟩ := own_slice hown
  unfold unitVal
  simp only
  have hbU := (Below.refl w1.heap.size w1).alloc (Nat.le_refl _) (.cells #[.int .i64 kind, .int .u32 r.code, .int .u32 session, .int .u32 number, .int .i64 flags, .slice Av data.length cv] 64)
  have hU := Blk.new w1 64 #[.int .i64 kind, .int .u32 r.code, .int .u32 session, .int .u32 number, .int .i64 flags, .slice Av data.length cv]
  have hb2 := hb1.trans (hbU.mono hb1.size)
  have hM2 := hM.below hb2
  have hr2 := own_below Hhr.out hb2
  have hs2 := hb2.size
  have HM := Lib.hid hM
  have hs1 := hb1.size
  have hslt : r.s < w.heap.size := (hM.lo r.s (by rw [show κ r.s = _ from (hM.seen i r hri).2]; simp)).2
  clear hr hdec hown hbU hb1 hM
  go_upto_region 4 with fail
  obtain ⟨gU, HgU⟩ : ∃ g, Hid (g = w1.heap.size) := ⟨_, Lib.hid rfl⟩
  rw [← HgU.out] at hU ⊢
  generalize w1.alloc (.cells _ 64) = W at *
  have hcx := hM2.blk.cell
  have hcU := hU.cell
  have hmd := hM2.map
  have hbz := fun (W' : World) (h : MapG.MapIs .u32 W' mp (R.map PRow.port)) => h.run_lookup2 (P := Tryz.prog) Tryz.underlying154 Tryz.underlying34 (zero_port W') r.code
  rw [lk_port hM2.codes hri] at hbz
  simp only [Option.getD_some, Option.isSome_some] at hbz
  have hZ := Blk.new W 160 #[.pointer none, .pointer none]
  have hm1 := hmd.keep (w' := W.drew) ((Keep.refl (fun _ => False) W).drew) (fun h => h)
  have hm2 := hmd.keep (w' := (W.alloc (.cells #[.pointer none, .pointer none] 160)).drew) (((Keep.refl (fun _ => False) W).alloc _).drew) (fun h => h)
  have hl1 := hbz _ hm1
  have hl2 := hbz _ hm2
  have hcx2 := ((hM2.blk.alloc (.cells #[.pointer none, .pointer none] 160)).drew).cell
  have hcU2 := ((hU.alloc (.cells #[.pointer none, .pointer none] 160)).drew).cell
  have hcZ2 := hZ.drew.cell
  have hfZ2 := hZ.drew.frozen
  clear hbz hm1 hm2
  go_wp2_with fail
  go_region
  all_goals
    (clear hl1 hl2 hcx2 hcU2 hcZ2 hfZ2 hcx hcU hZ hmd
     have hP := Blk.new W 160 (portCells r.a r.s)
     have hbP := ((Below.refl W.heap.size W).alloc (Nat.le_refl _) (.cells (portCells r.a r.s) 160)).drew
     have hPd := hP.drew
     have hM3 := hM2.below hbP
     have hU3 := hU.below hbP hU.lt
     have hr3 := own_below hr2 hbP
     have hb3 := hb2.trans (hbP.mono hs2)
     have hsz3 := hbP.size
     obtain ⟨gP, HgP⟩ : ∃ g, Hid (g = W.heap.size) := ⟨_, Lib.hid rfl⟩
     unfold portCells at hPd hM3 hU3 hr3 hb3 hsz3
     clear hP hbP hM2 hU hr2 hb2
     rw [← HgP.out] at hPd ⊢
     generalize (W.alloc (.cells #[.pointer (some ⟨r.a, 0, none⟩), .pointer (some ⟨r.s, 0, none⟩)] 160)).drew = W3 at *
     have hcP := hPd.cell
     have hadd := meterAdd_one r.s r.seen none W3 hs.1 (by omega) (hM3.seen i r hri).1
     have hM4 := hM3.onSeen hri (r.seen + 1)
     have hgs : Of κ (2 * i + 10) r.s := (hM3.seen i r hri).2
     have hAs : ∀ y, (Value.slice A n c).ownBlock = some y → ¬ y = r.s := fun y hy e => hAF y hy (hF y (by rw [e, show κ r.s = _ from hgs]; simp))
     have hkS : Keep (fun y => y = r.s) W3 (W3.setCell ⟨r.s, 0, none⟩ (.int .u64 (r.seen + 1))) := (Keep.refl (fun y => y = r.s) W3).setCell (p := ⟨r.s, 0, none⟩) (fun _ => rfl) _
     have hr4 := ownsRow_keep hr3 hkS hAs
     have hP4 := hPd.keep hkS (by have := HgP.out; omega)
     have hU4 := hU3.keep hkS (by have := HgU.out; omega)
     have hcall := hrv _ hM4 (Reads.of_own hr4)
     go_wp2_with fail
     refine hadd.mono ?_
     rintro e w4 ⟨rfl, rfl⟩
     have hs4 : (W3.setCell ⟨r.s, 0, none⟩ (.int .u64 (r.seen + 1))).heap.size = W3.heap.size := by simp
     generalize W3.setCell ⟨r.s, 0, none⟩ (.int .u64 (r.seen + 1)) = W4 at *
     clear hcP
     have hcP := hP4.cell
     unfold DevAns at hcall
     go_wp2_with fail
     refine hcall.mono ?_
     rintro e w5 ⟨v5, rfl, hv5, ht⟩
     have hU5 := hU4.keep ht.too.keep (fun h => by have h1 := (HM.out.lo gU (by rw [show κ gU = _ from h]; simp)).2; have h2 := HgU.out; omega)
     have hcU5 := hU5.cell
     go_wp2_with fail
     refine bodyPost_ret (v := .tuple #[.int .u32 r.code, v5, .int .i64 q3]) (by simp [results, Tryz.results35, go_sem]) rfl ⟨v5, rfl, ?_, ?_⟩)
  all_goals
    (have hs5 := ht.too.keep.size
     have hsw : w.heap.size ≤ W4.heap.size := by have := hb3.size; omega)
  all_goals first
    | exact own_base hv5 hsw
    | (have hset : (R.set i { r with seen := r.seen + 1 })[i]? = some { r with seen := r.seen + 1 } := by rw [List.getElem?_set]; simp [(List.getElem?_eq_some_iff.1 hri).1]
       have hM5 := hM4.onDev hset ht.too hin hpp
       rw [List.set_set] at hM5
       refine ⟨⟨⟨_, mp, bl, hM5, fun y hy => (paint_sub hF y hy).imp id (fun h => ⟨by omega, h.2⟩)⟩, fun y hy => ?_⟩, ((Keep.of_below hb3).trans (hkS.mono (fun y _ hy => hF y (by rw [hy, show κ r.s = _ from hgs]; simp)))).trans (ht.too.keep.mono (fun y _ hy => hF y (by rw [show κ y = _ from hy]; simp)))⟩
       have hB := HM.out.Ble
       rcases hy with hy | hy
       · have := hlo y hy; omega
       · omega)
theorem muxReceive_bad (B x : Nat) (R : List PRow) (lost : Int) (F : Nat → Prop) (A : Option Addr) (n c Br : Nat) (l : List UInt8) (w : World) (hM : MuxIs B w x R lost F) (hs : 0 ≤ lost ∧ lost < 4294967295)
    (he : (decodeM l).2 ≠ 0 ∨ ∀ r ∈ R, r.code ≠ (decodeM l).1.code) (hr : Reads w Br 1 A n (u8c l)) (hB : Br ≤ w.heap.size) (hc : n ≤ c) (hn : n ≤ 140737488351232) :
    Calls Tryz.prog 35 #[.pointer (some ⟨x, 0, none⟩), .slice A n c] w fun e w' => e = .returned (.tuple #[.int .u32 0, .slice none 0 0, .int .i64 (if (decodeM l).2 = 0 then 44 else (decodeM l).2)]) ∧ MuxTo B w x R (lost + 1) F w' := by
  have hdec := unitDecode_any A n c Br l w hr hB hc hn
  obtain ⟨⟨κ, mp, bl, hM, hF⟩, hlo⟩ := hM
  have hlk : ∃ pa ps ok, (MapG.lk (R.map PRow.port) (decodeM l).1.code).getD (.agg #[.pointer none, .pointer none]) = .agg #[.pointer pa, .pointer ps] ∧ (MapG.lk (R.map PRow.port) (decodeM l).1.code).isSome = ok ∧ ((decodeM l).2 = 0 → ok = false) := by
    by_cases hex : ∃ r ∈ R, r.code = (decodeM l).1.code
    · obtain ⟨r, hrm, hrc⟩ := hex
      obtain ⟨i, hi⟩ := List.getElem?_of_mem hrm
      have := lk_port hM.codes hi
      rw [hrc] at this
      rw [this]
      refine ⟨_, _, _, rfl, rfl, fun h0 => ?_⟩
      rcases he with h1 | h1
      · exact absurd h0 h1
      · exact absurd hrc (h1 r hrm)
    · rw [lk_port_none (fun r hr h => hex ⟨r, hr, h⟩)]
      exact ⟨_, _, _, rfl, rfl, fun _ => rfl⟩
  obtain ⟨pa, ps, ok, hl1, hl2, hl3⟩ := hlk
  clear he hr
  generalize decodeM l = d at *
  obtain ⟨⟨kind, code, session, number, flags, data⟩, er⟩ := d
  simp only at *
  obtain ⟨E, HE⟩ : ∃ E : Int, Hid (E = if er = 0 then 44 else er) := ⟨_, Lib.hid rfl⟩
  rw [← HE.out]
  go_enter Tryz.func35, Tryz.ntmps35
  go_wp2_with fail
  refine hdec.mono ?_
  rintro e w1 ⟨v, rfl, hown, hb1⟩
  obtain ⟨Av, cv, rfl⟩ := own_slice hown
  unfold unitVal
  simp only
  have hbU := (Below.refl w1.heap.size w1).alloc (Nat.le_refl _) (.cells #[.int .i64 kind, .int .u32 code, .int .u32 session, .int .u32 number, .int .i64 flags, .slice Av data.length cv] 64)
  have hU := Blk.new w1 64 #[.int .i64 kind, .int .u32 code, .int .u32 session, .int .u32 number, .int .i64 flags, .slice Av data.length cv]
  have hb2 := hb1.trans (hbU.mono hb1.size)
  have hM2 := hM.below hb2
  have hs2 := hb2.size
  have HM := Lib.hid hM
  clear hdec hown hbU hb1 hM
  go_upto_region 4 with fail
  obtain ⟨gU, HgU⟩ : ∃ g, Hid (g = w1.heap.size) := ⟨_, Lib.hid rfl⟩
  rw [← HgU.out] at hU ⊢
  generalize w1.alloc (.cells _ 64) = W at *
  have hcx := hM2.blk.cell
  have hcU := hU.cell
  have hmd := hM2.map
  have hbz := fun (W' : World) (h : MapG.MapIs .u32 W' mp (R.map PRow.port)) => h.run_lookup2 (P := Tryz.prog) Tryz.underlying154 Tryz.underlying34 (zero_port W') code
  rw [hl1, hl2] at hbz
  have hZ := Blk.new W 160 #[.pointer none, .pointer none]
  have hm1 := hmd.keep (w' := W.drew) ((Keep.refl (fun _ => False) W).drew) (fun h => h)
  have hm2 := hmd.keep (w' := (W.alloc (.cells #[.pointer none, .pointer none] 160)).drew) (((Keep.refl (fun _ => False) W).alloc _).drew) (fun h => h)
  have hk1 := hbz _ hm1
  have hk2 := hbz _ hm2
  have hcx2 := ((hM2.blk.alloc (.cells #[.pointer none, .pointer none] 160)).drew).cell
  have hcU2 := ((hU.alloc (.cells #[.pointer none, .pointer none] 160)).drew).cell
  have hcZ2 := hZ.drew.cell
  have hfZ2 := hZ.drew.frozen
  clear hbz hm1 hm2 hl1 hl2
  go_wp2_with fail
  go_region
  all_goals
    (clear hk1 hk2 hcx2 hcU2 hcZ2 hfZ2 hcx hcU hZ hmd
     have hbP := ((Below.refl W.heap.size W).alloc (Nat.le_refl _) (.cells #[.pointer pa, .pointer ps] 160)).drew
     have hM3 := hM2.below hbP
     have hb3 := hb2.trans (hbP.mono hs2)
     have hsz3 := hbP.size
     clear hbP hM2 hU hb2
     generalize (W.alloc (.cells #[.pointer pa, .pointer ps] 160)).drew = W3 at *
     have hadd := meterAdd_one bl lost none W3 hs.1 (by omega) hM3.lostB
     have hM4 := hM3.onLost (lost + 1)
     have hcx := hM3.blk.cell
     have hgs : Of κ 2 bl := hM3.kl
     have hkS : Keep (fun y => y = bl) W3 (W3.setCell ⟨bl, 0, none⟩ (.int .u64 (lost + 1))) := (Keep.refl (fun y => y = bl) W3).setCell (p := ⟨bl, 0, none⟩) (fun _ => rfl) _
     have hs4 : (W3.setCell ⟨bl, 0, none⟩ (.int .u64 (lost + 1))).heap.size = W3.heap.size := by simp
     have hto : MuxTo B w x R (lost + 1) F (W3.setCell ⟨bl, 0, none⟩ (.int .u64 (lost + 1))) := by
       refine ⟨⟨⟨κ, mp, bl, hM4, fun y hy => .inl (hF y hy)⟩, fun y hy => ?_⟩, (Keep.of_below hb3).trans (hkS.mono (fun y _ hy => hF y (by rw [hy, show κ bl = _ from hgs]; simp)))⟩
       have hB := HM.out.Ble
       rcases hy with hy | hy
       · have := hlo y hy; omega
       · omega)
  all_goals by_cases h0 : er = 0
  all_goals first
    | (subst h0
       obtain rfl := hl3 rfl
       go_wp2_with fail
       refine hadd.mono ?_
       rintro e w4 ⟨rfl, rfl⟩
       go_wp2_with fail
       refine bodyPost_ret (v := .tuple #[.int .u32 0, .slice none 0 0, .int .i64 44]) (by simp [results, Tryz.results35, go_sem]) rfl ⟨by simp [HE.out], hto⟩)
    | (have g0 : (er == 0) = false := by simpa using h0
       have g1 : (er != 0) = true := by simpa using h0
       clear hl3
       go_wp2_with fail
       refine hadd.mono ?_
       rintro e w4 ⟨rfl, rfl⟩
       go_wp2_with fail
       refine bodyPost_ret (v := .tuple #[.int .u32 0, .slice none 0 0, .int .i64 er]) (by simp [results, Tryz.results35, go_sem]) rfl ⟨by simp [HE.out, h0], hto⟩)
end Go.Proofs.YtlldgfejcjnpkaaGreat
/- The contract of mux.Tick. -/
namespace Go.Proofs.YtlldgfejcjnpkaaGreat
open Go.RowKit
set_option maxHeartbeats 10000000
set_option maxRecDepth 100000

theorem dtick_p (m : DevM) (n : Int) : (m.tick n).1.p = m.p := by
  unfold DevM.tick
  split
  · rfl
  split
  · rfl
  · simp only
    split <;> rfl
def PRow.tick (n : Int) (r : PRow) : PRow := { r with m := (r.m.tick n).1 }
theorem tick_code (n : Int) (r : PRow) : (r.tick n).code = r.code := by simp [PRow.tick, PRow.code, dtick_p]
theorem tick_port (n : Int) (r : PRow) : (r.tick n).port = r.port := by simp only [PRow.port, tick_code]; rfl
theorem paint_none {κ : Nat → Option Nat} {t y : Nat} {w w' : World} (h : κ y = none) (hlt : y < w.heap.size) : paint κ t w w' y = none := by
  unfold paint
  rw [if_neg (by omega), h]
theorem nodup_lt {α : Type} [DecidableEq α] : ∀ (ks m : List α), ks.Nodup → (∀ k ∈ ks, k ∈ m) → ks.length ≤ m.length
  | [], _, _, _ => Nat.zero_le _
  | k :: ks, m, hn, hs => by
    rw [List.nodup_cons] at hn
    have hk := hs k List.mem_cons_self
    have := nodup_lt ks (m.erase k) hn.2 (fun x hx => (List.mem_erase_of_ne (fun e : x = k => hn.1 (e ▸ hx))).2 (hs x (List.mem_cons_of_mem _ hx)))
    rw [List.length_erase_of_mem hk] at this
    have : 0 < m.length := List.length_pos_of_mem hk
    simp only [List.length_cons]
    omega
/-- Those in the places seen have ticked. -/
def Ticked (n : Int) (R R' : List PRow) (seen : List Nat) : Prop := R'.length = R.length ∧ ∀ i, R'[i]? = if i ∈ seen then (R[i]?).map (PRow.tick n) else R[i]?
theorem Ticked.port {n : Int} {R R' : List PRow} {seen : List Nat} (h : Ticked n R R' seen) : R'.map PRow.port = R.map PRow.port := by
  apply List.ext_getElem?
  intro i
  rw [List.getElem?_map, List.getElem?_map, h.2 i]
  split
  · cases R[i]? with
    | none => rfl
    | some r => simp [tick_port]
  · rfl
theorem Ticked.next {n : Int} {R R' : List PRow} {seen : List Nat} (h : Ticked n R R' seen) {i : Nat} {r : PRow} (hr : R[i]? = some r) (hs : i ∉ seen) : R'[i]? = some r ∧ Ticked n R (R'.set i (r.tick n)) (seen ++ [i]) := by
  have hi : R'[i]? = some r := by rw [h.2 i, if_neg hs, hr]
  refine ⟨hi, by rw [List.length_set]; exact h.1, fun j => ?_⟩
  rw [List.getElem?_set]
  by_cases e : i = j
  · subst e
    rw [if_pos rfl, if_pos (List.getElem?_eq_some_iff.1 hi).1, if_pos (by simp), hr]
    rfl
  · rw [if_neg e, h.2 j]
    by_cases hj : j ∈ seen
    · rw [if_pos hj, if_pos (by simp [hj])]
    · rw [if_neg hj, if_neg (by simp only [List.mem_append, List.mem_singleton]; exact fun h => h.elim hj (fun e' => e e'.symm))]
theorem Ticked.done {n : Int} {R R' : List PRow} {seen : List Nat} (h : Ticked n R R' seen) (hall : ∀ i, i < R.length → i ∈ seen) : R' = R.map (PRow.tick n) := by
  apply List.ext_getElem?
  intro i
  rw [List.getElem?_map, h.2 i]
  split
  · rfl
  · rename_i hn
    have : R.length ≤ i := by
      rcases Nat.lt_or_ge i R.length with h1 | h1
      · exact absurd (hall i h1) hn
      · exact h1
    rw [List.getElem?_eq_none this]
    rfl
theorem muxTick_any (B x : Nat) (R : List PRow) (lost : Int) (F : Nat → Prop) (n : Int) (w : World) (hM : MuxIs B w x R lost F) (hn : 0 ≤ n) (hlen : ∀ r ∈ R, r.m.log.length < 1073741800) :
    Calls Tryz.prog 32 #[.pointer (some ⟨x, 0, none⟩), .int .i64 n] w fun e w' => e = .returned (.int .i64 0) ∧ MuxTo B w x (R.map (PRow.tick n)) lost F w' := by
  obtain ⟨⟨κ, mp, bl, hM, hF⟩, hlo⟩ := hM
  have hcx := hM.blk.cell
  have hrange := hM.map.run_range (P := Tryz.prog) Tryz.underlying154
  rw [List.length_map] at hrange
  have hn0 : ¬ n < 0 := by omega
  have Hlen := Lib.hid hlen
  have HM := Lib.hid hM
  have HL := Lib.hid hlo
  have HF := Lib.hid hF
  clear hM hlen hlo hF
  go_enter Tryz.func32, Tryz.ntmps32
  go_wp2_with fail
  go_loopg [] R.length (fun q wr => ∃ (seen : Array Nat) (R' : List PRow) (κ' : Nat → Option Nat), seen.size + q = R.length ∧ Hid (seen.toList.Nodup ∧ (∀ i ∈ seen.toList, i < R.length) ∧ Ticked n R R' seen.toList) ∧ MapG.IterAt wr w.heap.size mp R.length seen ∧
      Hid (MuxAt B wr x R' lost κ' mp bl ∧ κ' w.heap.size = none ∧ w.heap.size < wr.heap.size ∧ (∀ y, κ' y ≠ none → grow F w wr y) ∧ Keep F w wr))
  case atStart =>
    have hb := (Below.refl w.heap.size w).alloc (Nat.le_refl _) (.mapIter (some mp) R.length #[] R.length)
    refine ⟨#[], R, κ, by simp, Lib.hid ⟨by simp, by simp, rfl, fun i => by simp⟩, heap_alloc_new w _, Lib.hid ⟨HM.out.below hb, ?_, by simp, fun y hy => .inl (HF.out y hy), Keep.of_below hb⟩⟩
    cases hk : κ w.heap.size with
    | none => rfl
    | some t => have := (HM.out.lo w.heap.size (by rw [hk]; simp)).2; omega
  case round =>
    obtain ⟨seen, R', κ', hq, HA, hit, HW⟩ := hrel
    obtain ⟨Wr, rfl⟩ : ∃ W : World, W = wr := ⟨_, rfl⟩
    obtain ⟨hMA, hki, hlt, hsub, hkeep⟩ := HW.out
    have hmw : MapG.MapIs .u32 Wr mp (R.map PRow.port) := by have h1 := hMA.map; rw [HA.out.2.2.port] at h1; exact h1
    have Hmap := Lib.hid hMA
    rcases hmw.run_next (P := Tryz.prog) (by rw [List.length_map]; exact hit) 0 with ⟨hdone, hrun⟩ | ⟨i, p, w2, hi, hns, hrun, hit2, hk2, hz2, hm2, hen⟩
    · have hrun' : ∀ ty, (Instr.next (.pointer (some ⟨w.heap.size, 0, none⟩)) false ty).run Tryz.prog Wr = .ok (.tuple #[.bool false]) Wr := fun _ => hrun
      have hR := HA.out.2.2.done (fun j hj => hdone j (by simpa using hj))
      rw [hR] at hMA
      have Hres := Lib.hid (show MuxTo B w x (R.map (PRow.tick n)) lost F Wr from ⟨⟨⟨κ', mp, bl, hMA, hsub⟩, fun y hy => by
        have hB := HM.out.Ble
        rcases hy with hy | hy
        · have := HL.out y hy; omega
        · omega⟩, hkeep⟩)
      clear hmw hrun hdone hR hMA hki hlt hsub hkeep hit HW Hmap
      go_wp2_with fail
      go_ret
      exact ⟨rfl, Hres.out⟩
    · obtain ⟨r, hr, rfl⟩ : ∃ r, R[i]? = some r ∧ r.port = p := by
        rw [List.getElem?_map] at hi
        cases hri : R[i]? with
        | none => rw [hri] at hi; cases hi
        | some r => rw [hri] at hi; exact ⟨r, rfl, Option.some.inj hi⟩
      obtain ⟨hi', htk⟩ := HA.out.2.2.next hr hns
      have hrun' : ∀ ty, (Instr.next (.pointer (some ⟨w.heap.size, 0, none⟩)) false ty).run Tryz.prog Wr = .ok (.tuple #[.bool true, .int .u32 r.code, .agg #[.pointer (some ⟨r.a, 0, none⟩), .pointer (some ⟨r.s, 0, none⟩)]]) w2 := fun _ => hrun
      have hen' : (Instr.entry (.pointer (some ⟨w.heap.size, 0, none⟩))).run Tryz.prog w2 = .ok (.tuple #[.int .u32 r.code, .agg #[.pointer (some ⟨r.a, 0, none⟩), .pointer (some ⟨r.s, 0, none⟩)]]) w2 := hen
      have hM2 := hMA.keepS hk2 (fun y hy e => hy (e ▸ hki))
      have hbP := (Below.refl w2.heap.size w2).alloc (Nat.le_refl _) (.cells (portCells r.a r.s) 160)
      have hP := Blk.new w2 160 (portCells r.a r.s)
      have hM3 := hM2.below hbP
      have hit3 : MapG.IterAt (w2.alloc (.cells (portCells r.a r.s) 160)) w.heap.size mp R.length (seen.push i) := by
        have h1 := hit2
        rw [List.length_map] at h1
        exact (hbP.block w.heap.size (by omega)).trans h1
      have hcall := devTick_any B r.a r.ma r.m (Of κ' (2 * i + 11)) n _ (hM3.dev i r hi').1 (hM3.dev i r hi').2 (Hlen.out r (List.mem_of_getElem? hr))
      have hz3 : w.heap.size < w2.heap.size := by omega
      have Hq := Lib.hid hq
      have hkp2 : Keep F w w2 := hkeep.andThen hk2 (fun y hl e => by omega)
      have Hz2 := Lib.hid hz2
      have Hsub := Lib.hid hsub
      have Hki := Lib.hid hki
      have Hns := Lib.hid hns
      have hs3 : (w2.alloc (.cells (portCells r.a r.s) 160)).heap.size = w2.heap.size + 1 := by simp
      have hin := (hMA.dev i r hi').2.tick n
      clear hrun hen hi hq hz2 hns hmw hit hit2 hm2 hMA hki hlt hsub hkeep HW hM2 hk2
      unfold portCells at hP hM3 hit3 hcall hs3 hbP
      go_upto_region 8 with fail
      obtain ⟨gP, HgP⟩ : ∃ g, Hid (g = w2.heap.size) := ⟨_, Lib.hid rfl⟩
      rw [← HgP.out] at hP ⊢
      generalize w2.alloc (.cells #[.pointer (some ⟨r.a, 0, none⟩), .pointer (some ⟨r.s, 0, none⟩)] 160) = W3 at *
      have hcP := hP.cell
      have Hs3 := Lib.hid hs3
      clear hs3
      go_wp2_with fail
      refine hcall.mono ?_
      rintro e w4 ⟨rfl, t⟩
      have hM4 := hM3.onDev hi' t hin (dtick_p r.m n)
      have hs4 := t.keep.size
      have hit4 : MapG.IterAt w4 w.heap.size mp R.length (seen.push i) := (t.keep.block w.heap.size (by have := Hs3.out; omega) (fun h => by rw [show κ' w.heap.size = _ from h] at Hki; exact absurd Hki.out (by simp))).trans hit3
      have hkp4 : Keep F w w4 := (hkp2.andThen (Keep.of_below (S := fun _ => False) hbP) (fun y _ h => h.elim)).andThen t.keep (fun y hl hy => by
        rcases Hsub.out y (by rw [show κ' y = _ from hy]; simp) with h | h
        · exact h
        · omega)
      have Hsl : Hid (seen.size < R.length) := Lib.hid (by
        have hil := (List.getElem?_eq_some_iff.1 hr).1
        obtain ⟨hnd, hin2, _⟩ := HA.out
        have := nodup_lt (i :: seen.toList) (List.range R.length) (List.nodup_cons.2 ⟨Hns.out, hnd⟩) (fun y hy => by
          rw [List.mem_range]
          rcases List.mem_cons.1 hy with rfl | h
          · exact hil
          · exact hin2 y h)
        simp at this
        omega)
      have Hit4 := Lib.hid hit4
      clear hit3 hit4 hcP hP hcall
      go_wp2_with fail
      go_roundg (R.length - (seen.size + 1))
      case measure => have h1 := Hq.out; have h2 := Hsl.out; omega
      case rel =>
        have hq := Hq.out
        have hil := (List.getElem?_eq_some_iff.1 hr).1
        obtain ⟨hnd, hin2, _⟩ := HA.out
        have hsl := Hsl.out
        refine ⟨seen.push i, _, _, by simp; omega, Lib.hid ⟨?_, ?_, by rw [Array.toList_push]; exact htk⟩, Hit4.out, Lib.hid ⟨hM4, paint_none Hki.out (by have := Hs3.out; omega), by have := Hs3.out; omega, ?_, hkp4⟩⟩
        · rw [Array.toList_push, List.nodup_append]
          exact ⟨hnd, by simp, fun y hy z hz => by simp only [List.mem_singleton] at hz; subst hz; intro e; exact Hns.out (e ▸ hy)⟩
        · intro y hy
          rw [Array.toList_push, List.mem_append] at hy
          rcases hy with h | h
          · exact hin2 y h
          · simp only [List.mem_singleton] at h; subst h; exact hil
        · intro y hy
          rcases paint_sub (F := grow F w Wr) Hsub.out y hy with h | h
          · rcases h with h | h
            · exact .inl h
            · exact .inr ⟨h.1, by have := Hs3.out; have := Hz2.out; omega⟩
          · exact .inr ⟨by have := Hs3.out; omega, h.2⟩

end Go.Proofs.YtlldgfejcjnpkaaGreat
