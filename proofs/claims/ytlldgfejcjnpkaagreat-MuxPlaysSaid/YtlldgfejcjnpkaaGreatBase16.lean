/- The base of the laws, part 16: contracts and plain lemmas, no statement. -/
import Derived.Test.YtlldgfejcjnpkaaGreatBase10
import Derived.Test.YtlldgfejcjnpkaaGreatBase14
import Derived.Test.YtlldgfejcjnpkaaGreatBase15
set_option linter.unusedVariables false
/- The reference's cell by its contracts: holds, word, write. -/
namespace Go.Proofs.YtlldgfejcjnpkaaGreat
open Go.RowKit
set_option maxHeartbeats 4000000
set_option maxRecDepth 100000

theorem rmemWrite_at (mb : Nat) (m : MemM) (F : Nat → Prop) (i : Nat) (x : UInt8) (j cv : Int) (w : World) (hj : j = (i : Int)) (hx : cv = (x.toNat : Int)) (h : RMemIs w mb m F) (hi : i < m.b.length) :
    Calls Tryz.prog 102 #[.pointer (some ⟨mb, 0, none⟩), .int .i64 j, .int .u8 cv] w fun e w' => e = .returned (.int .i64 (m.write i x).2) ∧ RMemTo w mb (m.write i x).1 F w' := by
  subst hj hx
  exact rmemWrite_any mb m F i x w h hi
theorem rHolds_any (mb : Nat) (m : MemM) (F : Nat → Prop) (k : Nat) (kk : Int) (w : World) (hkk : kk = (k : Int)) (h : RMemIs w mb m F) (hb : 10 ≤ m.b.length) (hk : k < 2) :
    Calls Tryz.prog 99 #[.pointer (some ⟨mb, 0, none⟩), .int .i64 kk] w fun e w' => e = .returned (.bool (m.holds k)) ∧ w' = w := by
  subst hkk
  obtain ⟨row, wr, h⟩ := h
  obtain ⟨A, c, rfl⟩ := own_slice h.bytes
  have hlen := h.len
  have hc := h.blk.cell
  unfold rmemCells at hc
  obtain ⟨g, rfl, hcell⟩ := own_cell1 h.bytes (by omega)
  have hg := holds_eq m k _ rfl
  have hv := hcell (5 * k) (by omega)
  have hgd : m.b.getD (5 * k) 0 = m.b[5 * k]'(by omega) := by simp [List.getD_eq_getElem?_getD]; rw [List.getElem?_eq_getElem (by omega)]; rfl
  rw [hgd] at hg
  generalize m.b[5 * k]'(by omega) = x at hv hg
  generalize m.holds k = r at *
  have hw1 : IntKind.i64.wrap (5 * (k : Int)) = 5 * (k : Int) := IntWalk.i64_in _ (by omega)
  have hkc : k = 0 ∨ k = 1 := by omega
  clear hcell hgd
  rcases hkc with rfl | rfl
  all_goals
    go_enter Tryz.func99, Tryz.ntmps99
    go_wp2_with fail
    go_ret
    exact ⟨rfl, rfl⟩
theorem rWord_any (mb : Nat) (m : MemM) (F : Nat → Prop) (k : Nat) (kk : Int) (w : World) (hkk : kk = (k : Int)) (h : RMemIs w mb m F) (hb : 10 ≤ m.b.length) (hk : k < 2) :
    Calls Tryz.prog 101 #[.pointer (some ⟨mb, 0, none⟩), .int .i64 kk] w fun e w' => e = .returned (.int .u32 (m.word k)) ∧ ∃ q, w' = w.drewN q := by
  subst hkk
  obtain ⟨row, wr, h⟩ := h
  obtain ⟨A, c, rfl⟩ := own_slice h.bytes
  have hlen := h.len
  have hcap := own_cap h.bytes
  have hc := h.blk.cell
  unfold rmemCells at hc
  have hrd := Reads.of_own h.bytes
  obtain ⟨g, rfl, hcell⟩ := own_cell1 h.bytes (by omega)
  have hkc : k = 0 ∨ k = 1 := by omega
  clear hcell
  have hlb : (10 : Int) ≤ (m.b.length : Int) := by omega
  have hcp : (m.b.length : Int) ≤ (c : Int) := by omega
  unfold MemM.word
  rcases hkc with rfl | rfl
  · have hw := fun c' => r4word_at 1 ⟨g, 0, none⟩ m.b.length 4 c' w.heap.size m.b w (by omega) (by omega) (by omega) hrd
    go_enter Tryz.func101, Tryz.ntmps101
    go_wp2_with fail
    refine (hw _).mono ?_
    rintro e w1 ⟨rfl, q, rfl⟩
    go_wp2_with fail
    go_ret
    exact ⟨rfl, q, rfl⟩
  · have hw := fun c' => r4word_at 6 ⟨g, 0, none⟩ m.b.length 4 c' w.heap.size m.b w (by omega) (by omega) (by omega) hrd
    go_enter Tryz.func101, Tryz.ntmps101
    go_wp2_with fail
    refine (hw _).mono ?_
    rintro e w1 ⟨rfl, q, rfl⟩
    go_wp2_with fail
    go_ret
    exact ⟨rfl, q, rfl⟩
theorem rValue_any (mb : Nat) (m : MemM) (F : Nat → Prop) (w : World) (h : RMemIs w mb m F) (hb : 10 ≤ m.b.length) :
    Calls Tryz.prog 98 #[.pointer (some ⟨mb, 0, none⟩)] w fun e w' => e = .returned (.int .u32 m.top) ∧ Below w.heap.size w w' := by
  obtain ⟨tp, Htp⟩ : ∃ t, Hid (t = m.top) := ⟨_, Lib.hid rfl⟩
  rw [← Htp.out]
  have hh0 := fun w h => rHolds_any mb m F 0 0 w rfl h hb (by omega)
  have hh1 := fun w h => rHolds_any mb m F 1 1 w rfl h hb (by omega)
  have hw0 := fun w h => rWord_any mb m F 0 0 w rfl h hb (by omega)
  have hw1 := fun w h => rWord_any mb m F 1 1 w rfl h hb (by omega)
  have Ht : Hid (tp = if m.holds 1 && decide ((if m.holds 0 && decide (0 < m.word 0) then m.word 0 else 0) < m.word 1) then m.word 1 else (if m.holds 0 && decide (0 < m.word 0) then m.word 0 else 0)) := Lib.hid Htp.out
  clear Htp
  generalize m.word 0 = x0 at *
  generalize m.word 1 = x1 at *
  obtain ⟨t0, Ht0⟩ : ∃ t, Hid (t = (if m.holds 0 && decide (0 < x0) then x0 else 0)) := ⟨_, Lib.hid rfl⟩
  go_enter Tryz.func98, Tryz.ntmps98
  go_wp2_with fail
  go_loopw [3, 4] (fun v3 v4 wl => ∃ (i : Nat) (v : Int), i ≤ 2 ∧ v4 = .int .i64 i ∧ v3 = .int .u32 v ∧ RMemIs wl mb m F ∧ Below w.heap.size w wl ∧ Hid ((i = 0 → v = 0) ∧ (i = 1 → v = t0) ∧ (i = 2 → v = tp))) (fun _ v4 _ => 2 - (intOf v4).toNat)
  case atStart => exact ⟨0, 0, by omega, rfl, rfl, h, Below.refl _ _, Lib.hid ⟨fun _ => rfl, fun h => by omega, fun h => by omega⟩⟩
  case round =>
    obtain ⟨i, v, hi, rfl, rfl, hM, hbi, Hv⟩ := hrel
    have hcase : i = 0 ∨ i = 1 ∨ i = 2 := by omega
    rcases hcase with rfl | rfl | rfl
    · have e0 := Hv.out.1 rfl
      subst e0
      have hH := hh0 _ hM
      have hW := hw0 _ hM
      cases g0 : m.holds 0 with
      | false =>
        have Hn : Hid ((0 : Int) = t0) := Lib.hid (by rw [Ht0.out]; simp [g0])
        rw [g0] at hH
        go_wp2_with (go_at_call 99; refine hH.mono ?_; rintro e w1 ⟨rfl, rfl⟩)
        go_round
        case rel => exact ⟨1, 0, by omega, by go_num, rfl, hM, hbi, Lib.hid ⟨fun h => by omega, fun _ => Hn.out, fun h => by omega⟩⟩
        case measure => simp [intOf]
      | true =>
        rw [g0] at hH
        by_cases hx : 0 < x0
        · have Hn : Hid (x0 = t0) := Lib.hid (by rw [Ht0.out]; simp [g0, hx])
          have Hw0 := Lib.hid hw0
          clear hw0
          go_wp2_with (first | (go_at_call 99; refine hH.mono ?_; rintro e w1 ⟨rfl, rfl⟩) | (go_at_call 101; refine hW.mono ?_; rintro e w1 ⟨rfl, q1, rfl⟩))
          refine (Hw0.out _ (hM.drewN q1)).mono ?_
          rintro e w2 ⟨rfl, q2, rfl⟩
          go_wp2_with fail
          go_round
          case rel => exact ⟨1, x0, by omega, by go_num, rfl, hM.drewN (q1 + q2), belowN hbi (q1 + q2), Lib.hid ⟨fun h => by omega, fun _ => Hn.out, fun h => by omega⟩⟩
          case measure => simp [intOf]
        · have Hn : Hid ((0 : Int) = t0) := Lib.hid (by rw [Ht0.out]; simp [g0, hx])
          go_wp2_with (first | (go_at_call 99; refine hH.mono ?_; rintro e w1 ⟨rfl, rfl⟩) | (go_at_call 101; refine hW.mono ?_; rintro e w1 ⟨rfl, q1, rfl⟩))
          go_round
          case rel => exact ⟨1, 0, by omega, by go_num, rfl, hM.drewN q1, belowN hbi q1, Lib.hid ⟨fun h => by omega, fun _ => Hn.out, fun h => by omega⟩⟩
          case measure => simp [intOf]
    · have Hv1 : Hid (v = t0) := Lib.hid (Hv.out.2.1 rfl)
      have Ht2 : Hid (tp = if m.holds 1 && decide (v < x1) then x1 else v) := Lib.hid (by rw [Ht.out, Hv1.out, Ht0.out])
      have hH := hh1 _ hM
      have hW := hw1 _ hM
      clear Hv
      cases g0 : m.holds 1 with
      | false =>
        have Hn : Hid (v = tp) := Lib.hid (by rw [Ht2.out, g0]; rfl)
        rw [g0] at hH
        go_wp2_with (go_at_call 99; refine hH.mono ?_; rintro e w1 ⟨rfl, rfl⟩)
        go_round
        case rel => exact ⟨2, v, by omega, by go_num, rfl, hM, hbi, Lib.hid ⟨fun h => by omega, fun h => by omega, fun _ => Hn.out⟩⟩
        case measure => simp [intOf]
      | true =>
        rw [g0] at hH
        by_cases hx : v < x1
        · have Hn : Hid (x1 = tp) := Lib.hid (by rw [Ht2.out, g0]; simp [hx])
          have Hw1 := Lib.hid hw1
          clear hw1
          go_wp2_with (first | (go_at_call 99; refine hH.mono ?_; rintro e w1 ⟨rfl, rfl⟩) | (go_at_call 101; refine hW.mono ?_; rintro e w1 ⟨rfl, q1, rfl⟩))
          refine (Hw1.out _ (hM.drewN q1)).mono ?_
          rintro e w2 ⟨rfl, q2, rfl⟩
          go_wp2_with fail
          go_round
          case rel => exact ⟨2, x1, by omega, by go_num, rfl, hM.drewN (q1 + q2), belowN hbi (q1 + q2), Lib.hid ⟨fun h => by omega, fun h => by omega, fun _ => Hn.out⟩⟩
          case measure => simp [intOf]
        · have Hn : Hid (v = tp) := Lib.hid (by rw [Ht2.out, g0]; simp [hx])
          go_wp2_with (first | (go_at_call 99; refine hH.mono ?_; rintro e w1 ⟨rfl, rfl⟩) | (go_at_call 101; refine hW.mono ?_; rintro e w1 ⟨rfl, q1, rfl⟩))
          go_round
          case rel => exact ⟨2, v, by omega, by go_num, rfl, hM.drewN q1, belowN hbi q1, Lib.hid ⟨fun h => by omega, fun h => by omega, fun _ => Hn.out⟩⟩
          case measure => simp [intOf]
    · have e2 := Hv.out.2.2 rfl
      subst e2
      go_wp2_with fail
      go_ret
      exact ⟨rfl, hbi⟩
end Go.Proofs.YtlldgfejcjnpkaaGreat
/- The reference's cell by its contracts: write. -/
namespace Go.Proofs.YtlldgfejcjnpkaaGreat
open Go.RowKit
set_option maxHeartbeats 4000000
set_option maxRecDepth 100000

/-- A slot's places, and what is laid there. -/
def slotAt : Nat → Nat
  | 5 => 0
  | i => i
def slotByte (x : Int) : Nat → Int
  | 0 => 0
  | 1 => x / 16777216
  | 2 => x / 65536 % 256
  | 3 => x / 256 % 256
  | 4 => x % 256
  | _ => 165
theorem slotBytes_at' (k : Nat) (x : Int) (i : Nat) (hi : i < 6) (hx : 0 ≤ x ∧ x < 4294967296) : ∃ b, (MemM.slotBytes k x).drop i = (5 * k + slotAt i, b) :: (MemM.slotBytes k x).drop (i + 1) ∧ (b.toNat : Int) = slotByte x i := by
  have hc : i = 0 ∨ i = 1 ∨ i = 2 ∨ i = 3 ∨ i = 4 ∨ i = 5 := by omega
  rcases hc with rfl | rfl | rfl | rfl | rfl | rfl
  · exact ⟨0, rfl, rfl⟩
  · exact ⟨_, rfl, by rw [byteOf_toNat]; show x / 16777216 % 256 = x / 16777216; omega⟩
  · exact ⟨_, rfl, byteOf_toNat _⟩
  · exact ⟨_, rfl, byteOf_toNat _⟩
  · exact ⟨_, rfl, byteOf_toNat _⟩
  · exact ⟨0xa5, rfl, rfl⟩
theorem rWrite_any (mb : Nat) (m : MemM) (F : Nat → Prop) (k : Nat) (kk x : Int) (w : World) (hkk : kk = (k : Int)) (h : RMemIs w mb m F) (hF : ∀ x, F x → x < w.heap.size) (hb : 10 ≤ m.b.length) (hk : k < 2) (hx : 0 ≤ x ∧ x < 4294967296) :
    Calls Tryz.prog 100 #[.pointer (some ⟨mb, 0, none⟩), .int .i64 kk, .int .u32 x] w fun e w' => e = .returned (.int .i64 (m.writeSlot k x).2) ∧ RMemIs w' mb (m.writeSlot k x).1 F ∧ Keep F w w' := by
  subst hkk
  have hkw : IntKind.i64.wrap (5 * (k : Int)) = 5 * (k : Int) := IntWalk.i64_in _ (by omega)
  obtain ⟨q, Hq⟩ : ∃ q, Hid (q = m.writeSlot k x) := ⟨_, Lib.hid rfl⟩
  rw [← Hq.out]
  have Hq0 : Hid (q = m.writeAll ((MemM.slotBytes k x).drop 0)) := Lib.hid Hq.out
  clear Hq
  have hbe : ∀ o1 o2, Below w.heap.size w ((w.alloc o1).alloc o2) := fun o1 o2 => ((Below.refl _ w).alloc (Nat.le_refl _) o1).alloc (by simp) o2
  have hb0 : ∀ cs t o, Blk ((w.alloc (.cells cs t)).alloc o) w.heap.size t cs := fun cs t o => (Blk.new w t cs).alloc o
  have hb1 : ∀ o cs t, Blk ((w.alloc o).alloc (.cells cs t)) (w.heap.size + 1) t cs := fun o cs t => Blk.new' (w.alloc o) t cs (by simp)
  go_enter Tryz.func100, Tryz.ntmps100
  go_upto_region 3 with fail
  have hM := h
  have hA0 := hb0 #[.int .i64 0, .int .i64 1, .int .i64 2, .int .i64 3, .int .i64 4, .int .i64 0] 3 (.cells #[.int .u8 0, .int .u8 (x / 16777216), .int .u8 (x / 65536 % 256), .int .u8 (x / 256 % 256), .int .u8 (x % 256), .int .u8 165] 5)
  have hA1 := hb1 (.cells #[.int .i64 0, .int .i64 1, .int .i64 2, .int .i64 3, .int .i64 4, .int .i64 0] 3) #[.int .u8 0, .int .u8 (x / 16777216), .int .u8 (x / 65536 % 256), .int .u8 (x / 256 % 256), .int .u8 (x % 256), .int .u8 165] 5
  have hbe0 := hbe (.cells #[.int .i64 0, .int .i64 1, .int .i64 2, .int .i64 3, .int .i64 4, .int .i64 0] 3) (.cells #[.int .u8 0, .int .u8 (x / 16777216), .int .u8 (x / 65536 % 256), .int .u8 (x / 256 % 256), .int .u8 (x % 256), .int .u8 165] 5)
  replace hM := hM.below hbe0
  have hk0 : Keep F w _ := Keep.of_below hbe0
  obtain ⟨b0, Hb0⟩ : ∃ b, Hid (b = w.heap.size) := ⟨_, Lib.hid rfl⟩
  obtain ⟨b1, Hb1⟩ : ∃ b, Hid (b = w.heap.size + 1) := ⟨_, Lib.hid rfl⟩
  have hFb : ∀ x, F x → x ≠ b0 ∧ x ≠ b1 := fun x hx => by have := hF x hx; have := Hb0.out; have := Hb1.out; omega
  rw [← Hb1.out] at hA1 ⊢
  rw [← Hb0.out] at hA0 ⊢
  generalize (w.alloc (.cells #[.int .i64 0, .int .i64 1, .int .i64 2, .int .i64 3, .int .i64 4, .int .i64 0] 3)).alloc (.cells #[.int .u8 0, .int .u8 (x / 16777216), .int .u8 (x / 65536 % 256), .int .u8 (x / 256 % 256), .int .u8 (x % 256), .int .u8 165] 5) = W0 at *
  clear hbe hb0 hb1 hbe0
  go_wp2_with fail
  go_loopw [9] (fun v9 wl => ∃ (i : Nat) (mi : MemM), i ≤ 6 ∧ v9 = .int .i64 i ∧ RMemIs wl mb mi F ∧ mi.b.length = m.b.length ∧ Hid (q = mi.writeAll ((MemM.slotBytes k x).drop i)) ∧ Keep F w wl ∧ Blk wl b0 3 #[.int .i64 0, .int .i64 1, .int .i64 2, .int .i64 3, .int .i64 4, .int .i64 0] ∧ Blk wl b1 5 #[.int .u8 0, .int .u8 (x / 16777216), .int .u8 (x / 65536 % 256), .int .u8 (x / 256 % 256), .int .u8 (x % 256), .int .u8 165]) (fun v9 _ => 6 - (intOf v9).toNat)
  case atStart => exact ⟨0, m, by omega, rfl, hM, rfl, Hq0, hk0, hA0, hA1⟩
  case round =>
    obtain ⟨i, mi, hi, rfl, ti, hli, Hqi, ki, h0, h1⟩ := hrel
    have hc0 := h0.cell
    have hc1 := h1.cell
    have hcase : i = 0 ∨ i = 1 ∨ i = 2 ∨ i = 3 ∨ i = 4 ∨ i = 5 ∨ i = 6 := by omega
    have tid := ti.drewN 1
    have h0d := h0.drew
    have h1d := h1.drew
    have kid := ki.drew
    have hw1 : IntKind.i64.wrap (5 * (k : Int) + 1) = 5 * (k : Int) + 1 := IntWalk.i64_in _ (by omega)
    have hw2 : IntKind.i64.wrap (5 * (k : Int) + 2) = 5 * (k : Int) + 2 := IntWalk.i64_in _ (by omega)
    have hw3 : IntKind.i64.wrap (5 * (k : Int) + 3) = 5 * (k : Int) + 3 := IntWalk.i64_in _ (by omega)
    have hw4 : IntKind.i64.wrap (5 * (k : Int) + 4) = 5 * (k : Int) + 4 := IntWalk.i64_in _ (by omega)
    rcases hcase with rfl | rfl | rfl | rfl | rfl | rfl | rfl
    · obtain ⟨b, hd, hbv⟩ := slotBytes_at' k x 0 (by omega) hx
      have Hq2 : Hid (q = if (mi.write (5 * k + 0) b).2 ≠ 0 then mi.write (5 * k + 0) b else (mi.write (5 * k + 0) b).1.writeAll ((MemM.slotBytes k x).drop 1)) := Lib.hid (by rw [Hqi.out, hd, writeAll_cons]; rfl)
      have hcall := fun W hW => rmemWrite_at mb mi F (5 * k + 0) b (5 * (k : Int)) 0 W (by omega) hbv.symm hW (by omega)
      have hwl := write_length mi (5 * k + 0) b
      generalize mi.write (5 * k + 0) b = r at *
      obtain ⟨m2, e2⟩ := r
      simp only at hcall hwl
      have Hq3 : Hid (q = if e2 ≠ 0 then (m2, e2) else m2.writeAll ((MemM.slotBytes k x).drop 1)) := Lib.hid Hq2.out
      clear Hq2 Hqi hd hbv
      go_wp2_with fail
      go_region_held3 (fun w' => w'.cell? ⟨b0, 0, none⟩ = some (.int .i64 0) ∧ w'.cell? ⟨b1, 0, none⟩ = some (.int .u8 0)) (exact ⟨(h0d.cell 0).trans rfl, (h1d.cell 0).trans rfl⟩) (first
        | (go_at_call 102; refine (hcall _ tid).mono ?_; rintro e W2 ⟨rfl, t2, k2, z2⟩; replace h0d := h0d.keep k2 (fun hx => (hFb _ hx).1 rfl); replace h1d := h1d.keep k2 (fun hx => (hFb _ hx).2 rfl)))
      all_goals
        have kk2 := kid.andThen k2 (fun _ _ h => h)
        clear z2 hcall
        by_cases he : e2 = 0
        · subst he
          have Hq4 : Hid (q = m2.writeAll ((MemM.slotBytes k x).drop 1)) := Lib.hid (by rw [Hq3.out]; simp)
          clear Hq3
          go_wp2_with fail
          go_round
          case rel => exact ⟨1, m2, by omega, by go_num, t2, by omega, Hq4, kk2, h0d, h1d⟩
          case measure => simp [intOf]
        · have Hq4 : Hid (q = (m2, e2)) := Lib.hid (by rw [Hq3.out, if_pos he])
          have g1 : (e2 != 0) = true := by simpa using he
          clear Hq3
          go_wp2_with fail
          go_ret
          rw [Hq4.out]
          exact ⟨rfl, t2, kk2⟩
    · obtain ⟨b, hd, hbv⟩ := slotBytes_at' k x 1 (by omega) hx
      have Hq2 : Hid (q = if (mi.write (5 * k + 1) b).2 ≠ 0 then mi.write (5 * k + 1) b else (mi.write (5 * k + 1) b).1.writeAll ((MemM.slotBytes k x).drop 2)) := Lib.hid (by rw [Hqi.out, hd, writeAll_cons]; rfl)
      have hcall := fun W hW => rmemWrite_at mb mi F (5 * k + 1) b (5 * (k : Int) + 1) (x / 16777216) W (by omega) hbv.symm hW (by omega)
      have hwl := write_length mi (5 * k + 1) b
      generalize mi.write (5 * k + 1) b = r at *
      obtain ⟨m2, e2⟩ := r
      simp only at hcall hwl
      have Hq3 : Hid (q = if e2 ≠ 0 then (m2, e2) else m2.writeAll ((MemM.slotBytes k x).drop 2)) := Lib.hid Hq2.out
      clear Hq2 Hqi hd hbv
      go_wp2_with fail
      go_region_held3 (fun w' => w'.cell? ⟨b0, 1, none⟩ = some (.int .i64 1) ∧ w'.cell? ⟨b1, 1, none⟩ = some (.int .u8 (x / 16777216))) (exact ⟨(h0d.cell 1).trans rfl, (h1d.cell 1).trans rfl⟩) (first
        | (go_at_call 102; refine (hcall _ tid).mono ?_; rintro e W2 ⟨rfl, t2, k2, z2⟩; replace h0d := h0d.keep k2 (fun hx => (hFb _ hx).1 rfl); replace h1d := h1d.keep k2 (fun hx => (hFb _ hx).2 rfl)))
      all_goals
        have kk2 := kid.andThen k2 (fun _ _ h => h)
        clear z2 hcall
        by_cases he : e2 = 0
        · subst he
          have Hq4 : Hid (q = m2.writeAll ((MemM.slotBytes k x).drop 2)) := Lib.hid (by rw [Hq3.out]; simp)
          clear Hq3
          go_wp2_with fail
          go_round
          case rel => exact ⟨2, m2, by omega, by go_num, t2, by omega, Hq4, kk2, h0d, h1d⟩
          case measure => simp [intOf]
        · have Hq4 : Hid (q = (m2, e2)) := Lib.hid (by rw [Hq3.out, if_pos he])
          have g1 : (e2 != 0) = true := by simpa using he
          clear Hq3
          go_wp2_with fail
          go_ret
          rw [Hq4.out]
          exact ⟨rfl, t2, kk2⟩
    · obtain ⟨b, hd, hbv⟩ := slotBytes_at' k x 2 (by omega) hx
      have Hq2 : Hid (q = if (mi.write (5 * k + 2) b).2 ≠ 0 then mi.write (5 * k + 2) b else (mi.write (5 * k + 2) b).1.writeAll ((MemM.slotBytes k x).drop 3)) := Lib.hid (by rw [Hqi.out, hd, writeAll_cons]; rfl)
      have hcall := fun W hW => rmemWrite_at mb mi F (5 * k + 2) b (5 * (k : Int) + 2) (x / 65536 % 256) W (by omega) hbv.symm hW (by omega)
      have hwl := write_length mi (5 * k + 2) b
      generalize mi.write (5 * k + 2) b = r at *
      obtain ⟨m2, e2⟩ := r
      simp only at hcall hwl
      have Hq3 : Hid (q = if e2 ≠ 0 then (m2, e2) else m2.writeAll ((MemM.slotBytes k x).drop 3)) := Lib.hid Hq2.out
      clear Hq2 Hqi hd hbv
      go_wp2_with fail
      go_region_held3 (fun w' => w'.cell? ⟨b0, 2, none⟩ = some (.int .i64 2) ∧ w'.cell? ⟨b1, 2, none⟩ = some (.int .u8 (x / 65536 % 256))) (exact ⟨(h0d.cell 2).trans rfl, (h1d.cell 2).trans rfl⟩) (first
        | (go_at_call 102; refine (hcall _ tid).mono ?_; rintro e W2 ⟨rfl, t2, k2, z2⟩; replace h0d := h0d.keep k2 (fun hx => (hFb _ hx).1 rfl); replace h1d := h1d.keep k2 (fun hx => (hFb _ hx).2 rfl)))
      all_goals
        have kk2 := kid.andThen k2 (fun _ _ h => h)
        clear z2 hcall
        by_cases he : e2 = 0
        · subst he
          have Hq4 : Hid (q = m2.writeAll ((MemM.slotBytes k x).drop 3)) := Lib.hid (by rw [Hq3.out]; simp)
          clear Hq3
          go_wp2_with fail
          go_round
          case rel => exact ⟨3, m2, by omega, by go_num, t2, by omega, Hq4, kk2, h0d, h1d⟩
          case measure => simp [intOf]
        · have Hq4 : Hid (q = (m2, e2)) := Lib.hid (by rw [Hq3.out, if_pos he])
          have g1 : (e2 != 0) = true := by simpa using he
          clear Hq3
          go_wp2_with fail
          go_ret
          rw [Hq4.out]
          exact ⟨rfl, t2, kk2⟩
    · obtain ⟨b, hd, hbv⟩ := slotBytes_at' k x 3 (by omega) hx
      have Hq2 : Hid (q = if (mi.write (5 * k + 3) b).2 ≠ 0 then mi.write (5 * k + 3) b else (mi.write (5 * k + 3) b).1.writeAll ((MemM.slotBytes k x).drop 4)) := Lib.hid (by rw [Hqi.out, hd, writeAll_cons]; rfl)
      have hcall := fun W hW => rmemWrite_at mb mi F (5 * k + 3) b (5 * (k : Int) + 3) (x / 256 % 256) W (by omega) hbv.symm hW (by omega)
      have hwl := write_length mi (5 * k + 3) b
      generalize mi.write (5 * k + 3) b = r at *
      obtain ⟨m2, e2⟩ := r
      simp only at hcall hwl
      have Hq3 : Hid (q = if e2 ≠ 0 then (m2, e2) else m2.writeAll ((MemM.slotBytes k x).drop 4)) := Lib.hid Hq2.out
      clear Hq2 Hqi hd hbv
      go_wp2_with fail
      go_region_held3 (fun w' => w'.cell? ⟨b0, 3, none⟩ = some (.int .i64 3) ∧ w'.cell? ⟨b1, 3, none⟩ = some (.int .u8 (x / 256 % 256))) (exact ⟨(h0d.cell 3).trans rfl, (h1d.cell 3).trans rfl⟩) (first
        | (go_at_call 102; refine (hcall _ tid).mono ?_; rintro e W2 ⟨rfl, t2, k2, z2⟩; replace h0d := h0d.keep k2 (fun hx => (hFb _ hx).1 rfl); replace h1d := h1d.keep k2 (fun hx => (hFb _ hx).2 rfl)))
      all_goals
        have kk2 := kid.andThen k2 (fun _ _ h => h)
        clear z2 hcall
        by_cases he : e2 = 0
        · subst he
          have Hq4 : Hid (q = m2.writeAll ((MemM.slotBytes k x).drop 4)) := Lib.hid (by rw [Hq3.out]; simp)
          clear Hq3
          go_wp2_with fail
          go_round
          case rel => exact ⟨4, m2, by omega, by go_num, t2, by omega, Hq4, kk2, h0d, h1d⟩
          case measure => simp [intOf]
        · have Hq4 : Hid (q = (m2, e2)) := Lib.hid (by rw [Hq3.out, if_pos he])
          have g1 : (e2 != 0) = true := by simpa using he
          clear Hq3
          go_wp2_with fail
          go_ret
          rw [Hq4.out]
          exact ⟨rfl, t2, kk2⟩
    · obtain ⟨b, hd, hbv⟩ := slotBytes_at' k x 4 (by omega) hx
      have Hq2 : Hid (q = if (mi.write (5 * k + 4) b).2 ≠ 0 then mi.write (5 * k + 4) b else (mi.write (5 * k + 4) b).1.writeAll ((MemM.slotBytes k x).drop 5)) := Lib.hid (by rw [Hqi.out, hd, writeAll_cons]; rfl)
      have hcall := fun W hW => rmemWrite_at mb mi F (5 * k + 4) b (5 * (k : Int) + 4) (x % 256) W (by omega) hbv.symm hW (by omega)
      have hwl := write_length mi (5 * k + 4) b
      generalize mi.write (5 * k + 4) b = r at *
      obtain ⟨m2, e2⟩ := r
      simp only at hcall hwl
      have Hq3 : Hid (q = if e2 ≠ 0 then (m2, e2) else m2.writeAll ((MemM.slotBytes k x).drop 5)) := Lib.hid Hq2.out
      clear Hq2 Hqi hd hbv
      go_wp2_with fail
      go_region_held3 (fun w' => w'.cell? ⟨b0, 4, none⟩ = some (.int .i64 4) ∧ w'.cell? ⟨b1, 4, none⟩ = some (.int .u8 (x % 256))) (exact ⟨(h0d.cell 4).trans rfl, (h1d.cell 4).trans rfl⟩) (first
        | (go_at_call 102; refine (hcall _ tid).mono ?_; rintro e W2 ⟨rfl, t2, k2, z2⟩; replace h0d := h0d.keep k2 (fun hx => (hFb _ hx).1 rfl); replace h1d := h1d.keep k2 (fun hx => (hFb _ hx).2 rfl)))
      all_goals
        have kk2 := kid.andThen k2 (fun _ _ h => h)
        clear z2 hcall
        by_cases he : e2 = 0
        · subst he
          have Hq4 : Hid (q = m2.writeAll ((MemM.slotBytes k x).drop 5)) := Lib.hid (by rw [Hq3.out]; simp)
          clear Hq3
          go_wp2_with fail
          go_round
          case rel => exact ⟨5, m2, by omega, by go_num, t2, by omega, Hq4, kk2, h0d, h1d⟩
          case measure => simp [intOf]
        · have Hq4 : Hid (q = (m2, e2)) := Lib.hid (by rw [Hq3.out, if_pos he])
          have g1 : (e2 != 0) = true := by simpa using he
          clear Hq3
          go_wp2_with fail
          go_ret
          rw [Hq4.out]
          exact ⟨rfl, t2, kk2⟩
    · obtain ⟨b, hd, hbv⟩ := slotBytes_at' k x 5 (by omega) hx
      have Hq2 : Hid (q = if (mi.write (5 * k + 0) b).2 ≠ 0 then mi.write (5 * k + 0) b else (mi.write (5 * k + 0) b).1.writeAll ((MemM.slotBytes k x).drop 6)) := Lib.hid (by rw [Hqi.out, hd, writeAll_cons]; rfl)
      have hcall := fun W hW => rmemWrite_at mb mi F (5 * k + 0) b (5 * (k : Int)) 165 W (by omega) hbv.symm hW (by omega)
      have hwl := write_length mi (5 * k + 0) b
      generalize mi.write (5 * k + 0) b = r at *
      obtain ⟨m2, e2⟩ := r
      simp only at hcall hwl
      have Hq3 : Hid (q = if e2 ≠ 0 then (m2, e2) else m2.writeAll ((MemM.slotBytes k x).drop 6)) := Lib.hid Hq2.out
      clear Hq2 Hqi hd hbv
      go_wp2_with fail
      go_region_held3 (fun w' => w'.cell? ⟨b0, 5, none⟩ = some (.int .i64 0) ∧ w'.cell? ⟨b1, 5, none⟩ = some (.int .u8 165)) (exact ⟨(h0d.cell 5).trans rfl, (h1d.cell 5).trans rfl⟩) (first
        | (go_at_call 102; refine (hcall _ tid).mono ?_; rintro e W2 ⟨rfl, t2, k2, z2⟩; replace h0d := h0d.keep k2 (fun hx => (hFb _ hx).1 rfl); replace h1d := h1d.keep k2 (fun hx => (hFb _ hx).2 rfl)))
      all_goals
        have kk2 := kid.andThen k2 (fun _ _ h => h)
        clear z2 hcall
        by_cases he : e2 = 0
        · subst he
          have Hq4 : Hid (q = m2.writeAll ((MemM.slotBytes k x).drop 6)) := Lib.hid (by rw [Hq3.out]; simp)
          clear Hq3
          go_wp2_with fail
          go_round
          case rel => exact ⟨6, m2, by omega, by go_num, t2, by omega, Hq4, kk2, h0d, h1d⟩
          case measure => simp [intOf]
        · have Hq4 : Hid (q = (m2, e2)) := Lib.hid (by rw [Hq3.out, if_pos he])
          have g1 : (e2 != 0) = true := by simpa using he
          clear Hq3
          go_wp2_with fail
          go_ret
          rw [Hq4.out]
          exact ⟨rfl, t2, kk2⟩
    · have e6 : q = (mi, 0) := Hqi.out
      subst e6
      clear Hqi
      go_wp2_with fail
      go_ret
      exact ⟨rfl, ti, ki⟩
end Go.Proofs.YtlldgfejcjnpkaaGreat
