/- The base of the laws, part 9: contracts and plain lemmas, no statement. -/
import Derived.Test.YtbkkfkbgcklkgaaGreatBase8
/- cell's cell by its contracts: repair. -/
namespace Go.Proofs.YtbkkfkbgcklkgaaGreat
open Go.RowKit
set_option maxHeartbeats 4000000
set_option maxRecDepth 100000

theorem holds_eq (m : MemM) (k : Nat) (b : Bool) (h : m.holds k = b) : (((m.b.getD (5 * k) 0).toNat : Int) == 165) = b := by
  subst h
  unfold MemM.holds
  rw [Bool.eq_iff_iff]
  simp only [beq_iff_eq]
  constructor
  · intro h
    apply UInt8.toNat_inj.1
    have : ((0xa5 : UInt8)).toNat = 165 := rfl
    omega
  · intro h
    rw [h]
    rfl
/-- A memory behind a call that may make blocks. -/
structure MemGo (w : World) (mb : Nat) (m : MemM) (F : Nat → Prop) (w' : World) : Prop where
  is_ : MemIs w' mb m F
  keep : Keep F w w'
/-- What is left of putting right where no slot holds a word. -/
def restNone (b : List UInt8) : Nat → MemM → MemM × Int × Int
  | 0, m =>
    let a := if b.getD 0 0 = 0 then (m, 0) else m.write 0 0
    if a.2 ≠ 0 then (a.1, 0, a.2) else
    let c := if b.getD 5 0 = 0 then (a.1, 0) else a.1.write 5 0
    (c.1, 0, c.2)
  | 1, m =>
    let c := if b.getD 5 0 = 0 then (m, 0) else m.write 5 0
    (c.1, 0, c.2)
  | _, m => (m, 0, 0)
theorem cellRepair_any (mb : Nat) (m : MemM) (F : Nat → Prop) (a0 a1 x0 x1 : Int) (w : World) (h : MemIs w mb m F) (hb : 10 ≤ m.b.length) (hF : ∀ x, F x → x < w.heap.size)
    (ha0 : a0 = ((m.b.getD (5 * 0) 0).toNat : Int)) (ha1 : a1 = ((m.b.getD (5 * 1) 0).toNat : Int)) (hx0 : x0 = m.word 0) (hx1 : x1 = m.word 1) :
    Calls Tryz.prog 84 #[.pointer (some ⟨mb, 0, none⟩), .agg #[.int .u8 a0, .int .u8 a1], .agg #[.int .u32 x0, .int .u32 x1]] w fun e w' => e = .returned (.tuple #[.int .u32 m.repair.2.1, .int .i64 m.repair.2.2]) ∧ MemGo w mb m.repair.1 F w' := by
  obtain ⟨q, Hq⟩ : ∃ q, Hid (q = m.repair) := ⟨_, Lib.hid rfl⟩
  rw [← Hq.out]
  have hg0 := fun b h => ha0 ▸ holds_eq m 0 b h
  have hg1 := fun b h => ha1 ▸ holds_eq m 1 b h
  have hxr0 := m.word_range 0
  have hxr1 := m.word_range 1
  have hbe : ∀ o1 o2 o3, Below w.heap.size w (((w.alloc o1).alloc o2).alloc o3) := fun o1 o2 o3 => (((Below.refl _ w).alloc (Nat.le_refl _) o1).alloc (by simp) o2).alloc (by simp; omega) o3
  cases h0 : m.holds 0 <;> cases h1 : m.holds 1
  · have e1 : q = restNone m.b 0 m := by
      rw [Hq.out]
      unfold MemM.repair restNone
      simp only [h0, h1, Bool.false_eq_true, if_false]
    have g0 := hg0 _ h0
    have g1 := hg1 _ h1
    have He1 := Lib.hid e1
    have Ha0 := Lib.hid ha0
    have Ha1 := Lib.hid ha1
    clear hg0 hg1 Hq ha0 ha1 hxr0 hxr1 hx0 hx1 e1 h0 h1
    go_enter Tryz.func84, Tryz.ntmps84
    go_upto_region 8 with fail
    obtain ⟨b0, Hb0⟩ : ∃ b, Hid (b = w.heap.size) := ⟨_, Lib.hid rfl⟩
    have hM := h.below (hbe (.cells #[.int .u8 a0, .int .u8 a1] 143) (.cells #[.int .u32 x0, .int .u32 x1] 144) (.cells #[.bool false, .bool false] 201))
    have hk : Keep F w _ := Keep.of_below (hbe (.cells #[.int .u8 a0, .int .u8 a1] 143) (.cells #[.int .u32 x0, .int .u32 x1] 144) (.cells #[.bool false, .bool false] 201))
    have hA : Blk (((w.alloc (.cells #[.int .u8 a0, .int .u8 a1] 143)).alloc (.cells #[.int .u32 x0, .int .u32 x1] 144)).alloc (.cells #[.bool false, .bool false] 201)) w.heap.size 143 #[.int .u8 a0, .int .u8 a1] := ((Blk.new w _ _).alloc _).alloc _
    have hFb : ∀ x, F x → x ≠ w.heap.size := fun x hx => by have := hF x hx; omega
    rw [← Hb0.out] at hA hFb ⊢
    generalize ((w.alloc (.cells #[.int .u8 a0, .int .u8 a1] 143)).alloc (.cells #[.int .u32 x0, .int .u32 x1] 144)).alloc (.cells #[.bool false, .bool false] 201) = W1 at *
    go_wp2_with fail
    go_loopw [48] (fun v48 wl => ∃ (i : Nat) (mi : MemM), i ≤ 2 ∧ v48 = .int .i64 i ∧ MemIs wl mb mi F ∧ mi.b.length = m.b.length ∧ Hid (q = restNone m.b i mi) ∧ Keep F w wl ∧ Blk wl b0 143 #[.int .u8 a0, .int .u8 a1]) (fun v48 _ => 2 - (intOf v48).toNat)
    case atStart => exact ⟨0, m, by omega, rfl, hM, rfl, He1, hk, hA⟩
    case round =>
      obtain ⟨i, mi, hi, rfl, ti, hli, Hqi, ki, hAi⟩ := hrel
      have hc := hAi.cell
      have hcase : i = 0 ∨ i = 1 ∨ i = 2 := by omega
      rcases hcase with rfl | rfl | rfl
      · by_cases hz : a0 = 0
        · have hz' : m.b.getD 0 0 = 0 := UInt8.toNat_inj.1 (by have := Ha0.out; rw [hz] at this; simpa using this.symm)
          have Hq1 : Hid (q = restNone m.b 1 mi) := Lib.hid (by rw [Hqi.out]; simp only [restNone, hz', if_true, ne_eq, not_true_eq_false, if_false])
          have g2 : (a0 != 0) = false := by simpa using hz
          clear Hqi hz hz'
          go_wp2_with fail
          go_round
          case rel => exact ⟨1, mi, by omega, by go_num, ti, hli, Hq1, ki, hAi⟩
          case measure => simp [intOf]
        · have hz' : ¬ m.b.getD 0 0 = 0 := fun e => hz (by have := Ha0.out; rw [show m.b.getD (5 * 0) 0 = 0 from e] at this; simpa using this)
          have g2 : (a0 != 0) = true := by simpa using hz
          have hcall := memWrite_at mb mi F 0 0 0 0 wr rfl rfl ti (by omega)
          have hwl := write_length mi 0 0
          have Hq1 : Hid (q = if (mi.write 0 0).2 ≠ 0 then ((mi.write 0 0).1, 0, (mi.write 0 0).2) else restNone m.b 1 (mi.write 0 0).1) := Lib.hid (by rw [Hqi.out]; simp only [restNone, hz', if_false])
          generalize mi.write 0 0 = r at *
          obtain ⟨m2, e2⟩ := r
          simp only at hcall hwl
          clear Hqi hz hz'
          go_wp2_with fail
          refine hcall.mono ?_
          rintro e w2 ⟨rfl, t2, k2, z2⟩
          have hA2 := hAi.keep k2 (fun hx => hFb _ hx rfl)
          clear z2 hcall hc
          have hk2 := ki.andThen k2 (fun _ _ h => h)
          by_cases he : e2 = 0
          · subst he
            have Hq2 : Hid (q = restNone m.b 1 m2) := Lib.hid (by rw [Hq1.out]; simp)
            clear Hq1
            go_wp2_with fail
            go_round
            case rel => exact ⟨1, m2, by omega, by go_num, t2, by omega, Hq2, hk2, hA2⟩
            case measure => simp [intOf]
          · have Hq2 : Hid (q = (m2, 0, e2)) := Lib.hid (by rw [Hq1.out, if_pos he])
            have g3 : (e2 != 0) = true := by simpa using he
            clear Hq1
            go_wp2_with fail
            have e3 := Hq2.out
            subst e3
            refine bodyPost_ret (v := .tuple #[.int .u32 0, .int .i64 e2]) (by simp [results, Tryz.results84, go_sem]) rfl ⟨rfl, t2, hk2⟩
      · by_cases hz : a1 = 0
        · have hz' : m.b.getD 5 0 = 0 := UInt8.toNat_inj.1 (by have := Ha1.out; rw [hz] at this; simpa using this.symm)
          have Hq1 : Hid (q = restNone m.b 2 mi) := Lib.hid (by rw [Hqi.out]; simp only [restNone, hz', if_true])
          have g2 : (a1 != 0) = false := by simpa using hz
          clear Hqi hz hz'
          go_wp2_with fail
          go_round
          case rel => exact ⟨2, mi, by omega, by go_num, ti, hli, Hq1, ki, hAi⟩
          case measure => simp [intOf]
        · have hz' : ¬ m.b.getD 5 0 = 0 := fun e => hz (by have := Ha1.out; rw [show m.b.getD (5 * 1) 0 = 0 from e] at this; simpa using this)
          have g2 : (a1 != 0) = true := by simpa using hz
          have hcall := memWrite_at mb mi F 5 0 5 0 wr rfl rfl ti (by omega)
          have hwl := write_length mi 5 0
          have Hq1 : Hid (q = ((mi.write 5 0).1, 0, (mi.write 5 0).2)) := Lib.hid (by rw [Hqi.out]; simp only [restNone, hz', if_false])
          generalize mi.write 5 0 = r at *
          obtain ⟨m2, e2⟩ := r
          simp only at hcall hwl
          clear Hqi hz hz'
          go_wp2_with fail
          refine hcall.mono ?_
          rintro e w2 ⟨rfl, t2, k2, z2⟩
          have hA2 := hAi.keep k2 (fun hx => hFb _ hx rfl)
          clear z2 hcall hc
          have hk2 := ki.andThen k2 (fun _ _ h => h)
          by_cases he : e2 = 0
          · subst he
            go_wp2_with fail
            go_round
            case rel => exact ⟨2, m2, by omega, by go_num, t2, by omega, Lib.hid Hq1.out, hk2, hA2⟩
            case measure => simp [intOf]
          · have g3 : (e2 != 0) = true := by simpa using he
            go_wp2_with fail
            have e3 := Hq1.out
            subst e3
            refine bodyPost_ret (v := .tuple #[.int .u32 0, .int .i64 e2]) (by simp [results, Tryz.results84, go_sem]) rfl ⟨rfl, t2, hk2⟩
      · have e3 : q = (mi, 0, 0) := Hqi.out
        subst e3
        clear Hqi
        go_wp2_with fail
        refine bodyPost_ret (v := .tuple #[.int .u32 0, .int .i64 0]) (by simp [results, Tryz.results84, go_sem]) rfl ⟨rfl, ti, ki⟩
  · have e1 : q = ((m.writeSlot 0 x1).1, x1, (m.writeSlot 0 x1).2) := by rw [Hq.out]; unfold MemM.repair; simp only [h0, h1, if_true, Bool.false_eq_true, if_false, hx1]
    have hcall := fun w h => cellWrite_any mb m F 0 0 x1 w rfl h hb (by omega) (by rw [hx1]; exact hxr1)
    have He1 := Lib.hid e1
    have g0 := hg0 _ h0
    have g1 := hg1 _ h1
    generalize m.writeSlot 0 x1 = r at *
    clear hg0 hg1 Hq ha0 ha1 hxr0 hxr1 hx0 hx1 e1
    go_enter Tryz.func84, Tryz.ntmps84
    go_upto_region 7 with fail
    obtain ⟨b1, Hb1⟩ : ∃ b, Hid (b = w.heap.size + 1) := ⟨_, Lib.hid rfl⟩
    have hM := (h.below (hbe (.cells #[.int .u8 a0, .int .u8 a1] 143) (.cells #[.int .u32 x0, .int .u32 x1] 144) (.cells #[.bool false, .bool true] 201))).drewN 1
    have hk : Keep F w _ := Keep.of_below (hbe (.cells #[.int .u8 a0, .int .u8 a1] 143) (.cells #[.int .u32 x0, .int .u32 x1] 144) (.cells #[.bool false, .bool true] 201)).drew
    have hX : Blk (((w.alloc (.cells #[.int .u8 a0, .int .u8 a1] 143)).alloc (.cells #[.int .u32 x0, .int .u32 x1] 144)).alloc (.cells #[.bool false, .bool true] 201)).drew (w.heap.size + 1) 144 #[.int .u32 x0, .int .u32 x1] := ((Blk.new' (w.alloc _) _ _ (by simp)).alloc _).drew
    have hFb : ∀ x, F x → x ≠ w.heap.size + 1 := fun x hx => by have := hF x hx; omega
    replace hM : MemIs (((w.alloc (.cells #[.int .u8 a0, .int .u8 a1] 143)).alloc (.cells #[.int .u32 x0, .int .u32 x1] 144)).alloc (.cells #[.bool false, .bool true] 201)).drew mb m F := hM
    rw [← Hb1.out] at hX hFb ⊢
    go_wp2_with fail
    generalize ((w.alloc (.cells #[.int .u8 a0, .int .u8 a1] 143)).alloc (.cells #[.int .u32 x0, .int .u32 x1] 144)).alloc (.cells #[.bool false, .bool true] 201) = W1 at *
    go_region_held3 (fun w' => w'.cell? ⟨b1, 1, none⟩ = some (.int .u32 x1)) (exact (hX.cell 1).trans rfl) (first
      | (go_at_call 127; refine (hcall _ hM).mono ?_; rintro e W2 ⟨rfl, t2, k2, z2⟩; replace hX := hX.keep k2 (fun hx => hFb _ hx rfl)))
    all_goals
      go_wp2_with fail
      have e3 := He1.out
      subst e3
      refine bodyPost_ret (v := .tuple #[.int .u32 x1, .int .i64 r.2]) (by simp [results, Tryz.results84, go_sem]) rfl ⟨rfl, t2, hk.andThen k2 (fun _ _ h => h)⟩
  · have e1 : q = ((m.writeSlot 1 x0).1, x0, (m.writeSlot 1 x0).2) := by rw [Hq.out]; unfold MemM.repair; simp only [h0, h1, if_true, Bool.false_eq_true, if_false, hx0]
    have hcall := fun w h => cellWrite_any mb m F 1 1 x0 w rfl h hb (by omega) (by rw [hx0]; exact hxr0)
    have He1 := Lib.hid e1
    have g0 := hg0 _ h0
    have g1 := hg1 _ h1
    generalize m.writeSlot 1 x0 = r at *
    clear hg0 hg1 Hq ha0 ha1 hxr0 hxr1 hx0 hx1 e1
    go_enter Tryz.func84, Tryz.ntmps84
    go_upto_region 5 with fail
    obtain ⟨b1, Hb1⟩ : ∃ b, Hid (b = w.heap.size + 1) := ⟨_, Lib.hid rfl⟩
    have hM := (h.below (hbe (.cells #[.int .u8 a0, .int .u8 a1] 143) (.cells #[.int .u32 x0, .int .u32 x1] 144) (.cells #[.bool true, .bool false] 201))).drewN 1
    have hk : Keep F w _ := Keep.of_below (hbe (.cells #[.int .u8 a0, .int .u8 a1] 143) (.cells #[.int .u32 x0, .int .u32 x1] 144) (.cells #[.bool true, .bool false] 201)).drew
    have hX : Blk (((w.alloc (.cells #[.int .u8 a0, .int .u8 a1] 143)).alloc (.cells #[.int .u32 x0, .int .u32 x1] 144)).alloc (.cells #[.bool true, .bool false] 201)).drew (w.heap.size + 1) 144 #[.int .u32 x0, .int .u32 x1] := ((Blk.new' (w.alloc _) _ _ (by simp)).alloc _).drew
    have hFb : ∀ x, F x → x ≠ w.heap.size + 1 := fun x hx => by have := hF x hx; omega
    replace hM : MemIs (((w.alloc (.cells #[.int .u8 a0, .int .u8 a1] 143)).alloc (.cells #[.int .u32 x0, .int .u32 x1] 144)).alloc (.cells #[.bool true, .bool false] 201)).drew mb m F := hM
    rw [← Hb1.out] at hX hFb ⊢
    go_wp2_with fail
    generalize ((w.alloc (.cells #[.int .u8 a0, .int .u8 a1] 143)).alloc (.cells #[.int .u32 x0, .int .u32 x1] 144)).alloc (.cells #[.bool true, .bool false] 201) = W1 at *
    go_region_held3 (fun w' => w'.cell? ⟨b1, 0, none⟩ = some (.int .u32 x0)) (exact (hX.cell 0).trans rfl) (first
      | (go_at_call 127; refine (hcall _ hM).mono ?_; rintro e W2 ⟨rfl, t2, k2, z2⟩; replace hX := hX.keep k2 (fun hx => hFb _ hx rfl)))
    all_goals
      go_wp2_with fail
      have e3 := He1.out
      subst e3
      refine bodyPost_ret (v := .tuple #[.int .u32 x0, .int .i64 r.2]) (by simp [results, Tryz.results84, go_sem]) rfl ⟨rfl, t2, hk.andThen k2 (fun _ _ h => h)⟩
  · have e1 : q = (m, max x0 x1, 0) := by rw [Hq.out]; unfold MemM.repair; simp only [h0, h1, if_true, hx0, hx1]
    subst e1
    have g0 := hg0 _ h0
    have g1 := hg1 _ h1
    clear hg0 hg1 Hq ha0 ha1 hxr0 hxr1 hx0 hx1
    have hend : MemGo w mb m F _ := ⟨h.below (hbe (.cells #[.int .u8 a0, .int .u8 a1] 143) (.cells #[.int .u32 x0, .int .u32 x1] 144) (.cells #[.bool true, .bool true] 201)), Keep.of_below (hbe _ _ _)⟩
    go_enter Tryz.func84, Tryz.ntmps84
    go_wp2_with fail
    · refine bodyPost_ret (v := .tuple #[.int .u32 x1, .int .i64 0]) (by simp [results, Tryz.results84, go_sem]) rfl ⟨?_, hend⟩
      rw [show max x0 x1 = x1 by omega]
    · refine bodyPost_ret (v := .tuple #[.int .u32 x0, .int .i64 0]) (by simp [results, Tryz.results84, go_sem]) rfl ⟨?_, hend⟩
      rw [show max x0 x1 = x0 by omega]
end Go.Proofs.YtbkkfkbgcklkgaaGreat
/- The reference's cell by its contracts: holds, word, write. -/
namespace Go.Proofs.YtbkkfkbgcklkgaaGreat
open Go.RowKit
set_option maxHeartbeats 4000000
set_option maxRecDepth 100000

theorem rmemWrite_at (mb : Nat) (m : MemM) (F : Nat → Prop) (i : Nat) (x : UInt8) (j cv : Int) (w : World) (hj : j = (i : Int)) (hx : cv = (x.toNat : Int)) (h : RMemIs w mb m F) (hi : i < m.b.length) :
    Calls Tryz.prog 92 #[.pointer (some ⟨mb, 0, none⟩), .int .i64 j, .int .u8 cv] w fun e w' => e = .returned (.int .i64 (m.write i x).2) ∧ RMemTo w mb (m.write i x).1 F w' := by
  subst hj hx
  exact rmemWrite_any mb m F i x w h hi
theorem rHolds_any (mb : Nat) (m : MemM) (F : Nat → Prop) (k : Nat) (kk : Int) (w : World) (hkk : kk = (k : Int)) (h : RMemIs w mb m F) (hb : 10 ≤ m.b.length) (hk : k < 2) :
    Calls Tryz.prog 89 #[.pointer (some ⟨mb, 0, none⟩), .int .i64 kk] w fun e w' => e = .returned (.bool (m.holds k)) ∧ w' = w := by
  subst hkk
  obtain ⟨row, wr, h⟩ := h
  obtain ⟨A, c, rfl⟩ := own_slice h.bytes
  have hlen := h.len
  have hc := h.blk.cell
  unfold rmemCells at hc
  obtain ⟨g, rfl, hcell⟩ := own_cell1 h.bytes (by omega)
  have hg := holds_eq m k _ rfl
  have hv := hcell (5 * k) (by omega)
  have hgd : m.b.getD (5 * k) 0 = m.b[5 * k]'(by omega) := by simp [List.getD_eq_getElem?_getD]; rw [List.getElem?_eq_getElem (by omega)]; rfl
  rw [hgd] at hg
  generalize m.b[5 * k]'(by omega) = x at hv hg
  generalize m.holds k = r at *
  have hw1 : IntKind.i64.wrap (5 * (k : Int)) = 5 * (k : Int) := IntWalk.i64_in _ (by omega)
  have hkc : k = 0 ∨ k = 1 := by omega
  clear hcell hgd
  rcases hkc with rfl | rfl
  all_goals
    go_enter Tryz.func89, Tryz.ntmps89
    go_wp2_with fail
    go_ret
    exact ⟨rfl, rfl⟩
theorem rWord_any (mb : Nat) (m : MemM) (F : Nat → Prop) (k : Nat) (kk : Int) (w : World) (hkk : kk = (k : Int)) (h : RMemIs w mb m F) (hb : 10 ≤ m.b.length) (hk : k < 2) :
    Calls Tryz.prog 91 #[.pointer (some ⟨mb, 0, none⟩), .int .i64 kk] w fun e w' => e = .returned (.int .u32 (m.word k)) ∧ ∃ q, w' = w.drewN q := by
  subst hkk
  obtain ⟨row, wr, h⟩ := h
  obtain ⟨A, c, rfl⟩ := own_slice h.bytes
  have hlen := h.len
  have hcap := own_cap h.bytes
  have hc := h.blk.cell
  unfold rmemCells at hc
  have hrd := Reads.of_own h.bytes
  obtain ⟨g, rfl, hcell⟩ := own_cell1 h.bytes (by omega)
  have hkc : k = 0 ∨ k = 1 := by omega
  clear hcell
  have hlb : (10 : Int) ≤ (m.b.length : Int) := by omega
  have hcp : (m.b.length : Int) ≤ (c : Int) := by omega
  unfold MemM.word
  rcases hkc with rfl | rfl
  · have hw := fun c' => r4word_at 1 ⟨g, 0, none⟩ m.b.length 4 c' w.heap.size m.b w (by omega) (by omega) (by omega) hrd
    go_enter Tryz.func91, Tryz.ntmps91
    go_wp2_with fail
    refine (hw _).mono ?_
    rintro e w1 ⟨rfl, q, rfl⟩
    go_wp2_with fail
    go_ret
    exact ⟨rfl, q, rfl⟩
  · have hw := fun c' => r4word_at 6 ⟨g, 0, none⟩ m.b.length 4 c' w.heap.size m.b w (by omega) (by omega) (by omega) hrd
    go_enter Tryz.func91, Tryz.ntmps91
    go_wp2_with fail
    refine (hw _).mono ?_
    rintro e w1 ⟨rfl, q, rfl⟩
    go_wp2_with fail
    go_ret
    exact ⟨rfl, q, rfl⟩
theorem rValue_any (mb : Nat) (m : MemM) (F : Nat → Prop) (w : World) (h : RMemIs w mb m F) (hb : 10 ≤ m.b.length) :
    Calls Tryz.prog 88 #[.pointer (some ⟨mb, 0, none⟩)] w fun e w' => e = .returned (.int .u32 m.top) ∧ Below w.heap.size w w' := by
  obtain ⟨tp, Htp⟩ : ∃ t, Hid (t = m.top) := ⟨_, Lib.hid rfl⟩
  rw [← Htp.out]
  have hh0 := fun w h => rHolds_any mb m F 0 0 w rfl h hb (by omega)
  have hh1 := fun w h => rHolds_any mb m F 1 1 w rfl h hb (by omega)
  have hw0 := fun w h => rWord_any mb m F 0 0 w rfl h hb (by omega)
  have hw1 := fun w h => rWord_any mb m F 1 1 w rfl h hb (by omega)
  have Ht : Hid (tp = if m.holds 1 && decide ((if m.holds 0 && decide (0 < m.word 0) then m.word 0 else 0) < m.word 1) then m.word 1 else (if m.holds 0 && decide (0 < m.word 0) then m.word 0 else 0)) := Lib.hid Htp.out
  clear Htp
  generalize m.word 0 = x0 at *
  generalize m.word 1 = x1 at *
  obtain ⟨t0, Ht0⟩ : ∃ t, Hid (t = (if m.holds 0 && decide (0 < x0) then x0 else 0)) := ⟨_, Lib.hid rfl⟩
  go_enter Tryz.func88, Tryz.ntmps88
  go_wp2_with fail
  go_loopw [3, 4] (fun v3 v4 wl => ∃ (i : Nat) (v : Int), i ≤ 2 ∧ v4 = .int .i64 i ∧ v3 = .int .u32 v ∧ RMemIs wl mb m F ∧ Below w.heap.size w wl ∧ Hid ((i = 0 → v = 0) ∧ (i = 1 → v = t0) ∧ (i = 2 → v = tp))) (fun _ v4 _ => 2 - (intOf v4).toNat)
  case atStart => exact ⟨0, 0, by omega, rfl, rfl, h, Below.refl _ _, Lib.hid ⟨fun _ => rfl, fun h => by omega, fun h => by omega⟩⟩
  case round =>
    obtain ⟨i, v, hi, rfl, rfl, hM, hbi, Hv⟩ := hrel
    have hcase : i = 0 ∨ i = 1 ∨ i = 2 := by omega
    rcases hcase with rfl | rfl | rfl
    · have e0 := Hv.out.1 rfl
      subst e0
      have hH := hh0 _ hM
      have hW := hw0 _ hM
      cases g0 : m.holds 0 with
      | false =>
        have Hn : Hid ((0 : Int) = t0) := Lib.hid (by rw [Ht0.out]; simp [g0])
        rw [g0] at hH
        go_wp2_with (go_at_call 89; refine hH.mono ?_; rintro e w1 ⟨rfl, rfl⟩)
        go_round
        case rel => exact ⟨1, 0, by omega, by go_num, rfl, hM, hbi, Lib.hid ⟨fun h => by omega, fun _ => Hn.out, fun h => by omega⟩⟩
        case measure => simp [intOf]
      | true =>
        rw [g0] at hH
        by_cases hx : 0 < x0
        · have Hn : Hid (x0 = t0) := Lib.hid (by rw [Ht0.out]; simp [g0, hx])
          have Hw0 := Lib.hid hw0
          clear hw0
          go_wp2_with (first | (go_at_call 89; refine hH.mono ?_; rintro e w1 ⟨rfl, rfl⟩) | (go_at_call 91; refine hW.mono ?_; rintro e w1 ⟨rfl, q1, rfl⟩))
          refine (Hw0.out _ (hM.drewN q1)).mono ?_
          rintro e w2 ⟨rfl, q2, rfl⟩
          go_wp2_with fail
          go_round
          case rel => exact ⟨1, x0, by omega, by go_num, rfl, hM.drewN (q1 + q2), belowN hbi (q1 + q2), Lib.hid ⟨fun h => by omega, fun _ => Hn.out, fun h => by omega⟩⟩
          case measure => simp [intOf]
        · have Hn : Hid ((0 : Int) = t0) := Lib.hid (by rw [Ht0.out]; simp [g0, hx])
          go_wp2_with (first | (go_at_call 89; refine hH.mono ?_; rintro e w1 ⟨rfl, rfl⟩) | (go_at_call 91; refine hW.mono ?_; rintro e w1 ⟨rfl, q1, rfl⟩))
          go_round
          case rel => exact ⟨1, 0, by omega, by go_num, rfl, hM.drewN q1, belowN hbi q1, Lib.hid ⟨fun h => by omega, fun _ => Hn.out, fun h => by omega⟩⟩
          case measure => simp [intOf]
    · have Hv1 : Hid (v = t0) := Lib.hid (Hv.out.2.1 rfl)
      have Ht2 : Hid (tp = if m.holds 1 && decide (v < x1) then x1 else v) := Lib.hid (by rw [Ht.out, Hv1.out, Ht0.out])
      have hH := hh1 _ hM
      have hW := hw1 _ hM
      clear Hv
      cases g0 : m.holds 1 with
      | false =>
        have Hn : Hid (v = tp) := Lib.hid (by rw [Ht2.out, g0]; rfl)
        rw [g0] at hH
        go_wp2_with (go_at_call 89; refine hH.mono ?_; rintro e w1 ⟨rfl, rfl⟩)
        go_round
        case rel => exact ⟨2, v, by omega, by go_num, rfl, hM, hbi, Lib.hid ⟨fun h => by omega, fun h => by omega, fun _ => Hn.out⟩⟩
        case measure => simp [intOf]
      | true =>
        rw [g0] at hH
        by_cases hx : v < x1
        · have Hn : Hid (x1 = tp) := Lib.hid (by rw [Ht2.out, g0]; simp [hx])
          have Hw1 := Lib.hid hw1
          clear hw1
          go_wp2_with (first | (go_at_call 89; refine hH.mono ?_; rintro e w1 ⟨rfl, rfl⟩) | (go_at_call 91; refine hW.mono ?_; rintro e w1 ⟨rfl, q1, rfl⟩))
          refine (Hw1.out _ (hM.drewN q1)).mono ?_
          rintro e w2 ⟨rfl, q2, rfl⟩
          go_wp2_with fail
          go_round
          case rel => exact ⟨2, x1, by omega, by go_num, rfl, hM.drewN (q1 + q2), belowN hbi (q1 + q2), Lib.hid ⟨fun h => by omega, fun h => by omega, fun _ => Hn.out⟩⟩
          case measure => simp [intOf]
        · have Hn : Hid (v = tp) := Lib.hid (by rw [Ht2.out, g0]; simp [hx])
          go_wp2_with (first | (go_at_call 89; refine hH.mono ?_; rintro e w1 ⟨rfl, rfl⟩) | (go_at_call 91; refine hW.mono ?_; rintro e w1 ⟨rfl, q1, rfl⟩))
          go_round
          case rel => exact ⟨2, v, by omega, by go_num, rfl, hM.drewN q1, belowN hbi q1, Lib.hid ⟨fun h => by omega, fun h => by omega, fun _ => Hn.out⟩⟩
          case measure => simp [intOf]
    · have e2 := Hv.out.2.2 rfl
      subst e2
      go_wp2_with fail
      go_ret
      exact ⟨rfl, hbi⟩
end Go.Proofs.YtbkkfkbgcklkgaaGreat
/- The reference's cell by its contracts: write. -/
namespace Go.Proofs.YtbkkfkbgcklkgaaGreat
open Go.RowKit
set_option maxHeartbeats 4000000
set_option maxRecDepth 100000

/-- A slot's places, and what is laid there. -/
def slotAt : Nat → Nat
  | 5 => 0
  | i => i
def slotByte (x : Int) : Nat → Int
  | 0 => 0
  | 1 => x / 16777216
  | 2 => x / 65536 % 256
  | 3 => x / 256 % 256
  | 4 => x % 256
  | _ => 165
theorem slotBytes_at' (k : Nat) (x : Int) (i : Nat) (hi : i < 6) (hx : 0 ≤ x ∧ x < 4294967296) : ∃ b, (MemM.slotBytes k x).drop i = (5 * k + slotAt i, b) :: (MemM.slotBytes k x).drop (i + 1) ∧ (b.toNat : Int) = slotByte x i := by
  have hc : i = 0 ∨ i = 1 ∨ i = 2 ∨ i = 3 ∨ i = 4 ∨ i = 5 := by omega
  rcases hc with rfl | rfl | rfl | rfl | rfl | rfl
  · exact ⟨0, rfl, rfl⟩
  · exact ⟨_, rfl, by rw [byteOf_toNat]; show x / 16777216 % 256 = x / 16777216; omega⟩
  · exact ⟨_, rfl, byteOf_toNat _⟩
  · exact ⟨_, rfl, byteOf_toNat _⟩
  · exact ⟨_, rfl, byteOf_toNat _⟩
  · exact ⟨0xa5, rfl, rfl⟩
theorem rWrite_any (mb : Nat) (m : MemM) (F : Nat → Prop) (k : Nat) (kk x : Int) (w : World) (hkk : kk = (k : Int)) (h : RMemIs w mb m F) (hF : ∀ x, F x → x < w.heap.size) (hb : 10 ≤ m.b.length) (hk : k < 2) (hx : 0 ≤ x ∧ x < 4294967296) :
    Calls Tryz.prog 90 #[.pointer (some ⟨mb, 0, none⟩), .int .i64 kk, .int .u32 x] w fun e w' => e = .returned (.int .i64 (m.writeSlot k x).2) ∧ RMemIs w' mb (m.writeSlot k x).1 F ∧ Keep F w w' := by
  subst hkk
  have hkw : IntKind.i64.wrap (5 * (k : Int)) = 5 * (k : Int) := IntWalk.i64_in _ (by omega)
  obtain ⟨q, Hq⟩ : ∃ q, Hid (q = m.writeSlot k x) := ⟨_, Lib.hid rfl⟩
  rw [← Hq.out]
  have Hq0 : Hid (q = m.writeAll ((MemM.slotBytes k x).drop 0)) := Lib.hid Hq.out
  clear Hq
  have hbe : ∀ o1 o2, Below w.heap.size w ((w.alloc o1).alloc o2) := fun o1 o2 => ((Below.refl _ w).alloc (Nat.le_refl _) o1).alloc (by simp) o2
  have hb0 : ∀ cs t o, Blk ((w.alloc (.cells cs t)).alloc o) w.heap.size t cs := fun cs t o => (Blk.new w t cs).alloc o
  have hb1 : ∀ o cs t, Blk ((w.alloc o).alloc (.cells cs t)) (w.heap.size + 1) t cs := fun o cs t => Blk.new' (w.alloc o) t cs (by simp)
  go_enter Tryz.func90, Tryz.ntmps90
  go_upto_region 3 with fail
  have hM := h
  have hA0 := hb0 #[.int .i64 0, .int .i64 1, .int .i64 2, .int .i64 3, .int .i64 4, .int .i64 0] 3 (.cells #[.int .u8 0, .int .u8 (x / 16777216), .int .u8 (x / 65536 % 256), .int .u8 (x / 256 % 256), .int .u8 (x % 256), .int .u8 165] 5)
  have hA1 := hb1 (.cells #[.int .i64 0, .int .i64 1, .int .i64 2, .int .i64 3, .int .i64 4, .int .i64 0] 3) #[.int .u8 0, .int .u8 (x / 16777216), .int .u8 (x / 65536 % 256), .int .u8 (x / 256 % 256), .int .u8 (x % 256), .int .u8 165] 5
  have hbe0 := hbe (.cells #[.int .i64 0, .int .i64 1, .int .i64 2, .int .i64 3, .int .i64 4, .int .i64 0] 3) (.cells #[.int .u8 0, .int .u8 (x / 16777216), .int .u8 (x / 65536 % 256), .int .u8 (x / 256 % 256), .int .u8 (x % 256), .int .u8 165] 5)
  replace hM := hM.below hbe0
  have hk0 : Keep F w _ := Keep.of_below hbe0
  obtain ⟨b0, Hb0⟩ : ∃ b, Hid (b = w.heap.size) := ⟨_, Lib.hid rfl⟩
  obtain ⟨b1, Hb1⟩ : ∃ b, Hid (b = w.heap.size + 1) := ⟨_, Lib.hid rfl⟩
  have hFb : ∀ x, F x → x ≠ b0 ∧ x ≠ b1 := fun x hx => by have := hF x hx; have := Hb0.out; have := Hb1.out; omega
  rw [← Hb1.out] at hA1 ⊢
  rw [← Hb0.out] at hA0 ⊢
  generalize (w.alloc (.cells #[.int .i64 0, .int .i64 1, .int .i64 2, .int .i64 3, .int .i64 4, .int .i64 0] 3)).alloc (.cells #[.int .u8 0, .int .u8 (x / 16777216), .int .u8 (x / 65536 % 256), .int .u8 (x / 256 % 256), .int .u8 (x % 256), .int .u8 165] 5) = W0 at *
  clear hbe hb0 hb1 hbe0
  go_wp2_with fail
  go_loopw [9] (fun v9 wl => ∃ (i : Nat) (mi : MemM), i ≤ 6 ∧ v9 = .int .i64 i ∧ RMemIs wl mb mi F ∧ mi.b.length = m.b.length ∧ Hid (q = mi.writeAll ((MemM.slotBytes k x).drop i)) ∧ Keep F w wl ∧ Blk wl b0 3 #[.int .i64 0, .int .i64 1, .int .i64 2, .int .i64 3, .int .i64 4, .int .i64 0] ∧ Blk wl b1 5 #[.int .u8 0, .int .u8 (x / 16777216), .int .u8 (x / 65536 % 256), .int .u8 (x / 256 % 256), .int .u8 (x % 256), .int .u8 165]) (fun v9 _ => 6 - (intOf v9).toNat)
  case atStart => exact ⟨0, m, by omega, rfl, hM, rfl, Hq0, hk0, hA0, hA1⟩
  case round =>
    obtain ⟨i, mi, hi, rfl, ti, hli, Hqi, ki, h0, h1⟩ := hrel
    have hc0 := h0.cell
    have hc1 := h1.cell
    have hcase : i = 0 ∨ i = 1 ∨ i = 2 ∨ i = 3 ∨ i = 4 ∨ i = 5 ∨ i = 6 := by omega
    have tid := ti.drewN 1
    have h0d := h0.drew
    have h1d := h1.drew
    have kid := ki.drew
    have hw1 : IntKind.i64.wrap (5 * (k : Int) + 1) = 5 * (k : Int) + 1 := IntWalk.i64_in _ (by omega)
    have hw2 : IntKind.i64.wrap (5 * (k : Int) + 2) = 5 * (k : Int) + 2 := IntWalk.i64_in _ (by omega)
    have hw3 : IntKind.i64.wrap (5 * (k : Int) + 3) = 5 * (k : Int) + 3 := IntWalk.i64_in _ (by omega)
    have hw4 : IntKind.i64.wrap (5 * (k : Int) + 4) = 5 * (k : Int) + 4 := IntWalk.i64_in _ (by omega)
    rcases hcase with rfl | rfl | rfl | rfl | rfl | rfl | rfl
    · obtain ⟨b, hd, hbv⟩ := slotBytes_at' k x 0 (by omega) hx
      have Hq2 : Hid (q = if (mi.write (5 * k + 0) b).2 ≠ 0 then mi.write (5 * k + 0) b else (mi.write (5 * k + 0) b).1.writeAll ((MemM.slotBytes k x).drop 1)) := Lib.hid (by rw [Hqi.out, hd, writeAll_cons]; rfl)
      have hcall := fun W hW => rmemWrite_at mb mi F (5 * k + 0) b (5 * (k : Int)) 0 W (by omega) hbv.symm hW (by omega)
      have hwl := write_length mi (5 * k + 0) b
      generalize mi.write (5 * k + 0) b = r at *
      obtain ⟨m2, e2⟩ := r
      simp only at hcall hwl
      have Hq3 : Hid (q = if e2 ≠ 0 then (m2, e2) else m2.writeAll ((MemM.slotBytes k x).drop 1)) := Lib.hid Hq2.out
      clear Hq2 Hqi hd hbv
      go_wp2_with fail
      go_region_held3 (fun w' => w'.cell? ⟨b0, 0, none⟩ = some (.int .i64 0) ∧ w'.cell? ⟨b1, 0, none⟩ = some (.int .u8 0)) (exact ⟨(h0d.cell 0).trans rfl, (h1d.cell 0).trans rfl⟩) (first
        | (go_at_call 92; refine (hcall _ tid).mono ?_; rintro e W2 ⟨rfl, t2, k2, z2⟩; replace h0d := h0d.keep k2 (fun hx => (hFb _ hx).1 rfl); replace h1d := h1d.keep k2 (fun hx => (hFb _ hx).2 rfl)))
      all_goals
        have kk2 := kid.andThen k2 (fun _ _ h => h)
        clear z2 hcall
        by_cases he : e2 = 0
        · subst he
          have Hq4 : Hid (q = m2.writeAll ((MemM.slotBytes k x).drop 1)) := Lib.hid (by rw [Hq3.out]; simp)
          clear Hq3
          go_wp2_with fail
          go_round
          case rel => exact ⟨1, m2, by omega, by go_num, t2, by omega, Hq4, kk2, h0d, h1d⟩
          case measure => simp [intOf]
        · have Hq4 : Hid (q = (m2, e2)) := Lib.hid (by rw [Hq3.out, if_pos he])
          have g1 : (e2 != 0) = true := by simpa using he
          clear Hq3
          go_wp2_with fail
          go_ret
          rw [Hq4.out]
          exact ⟨rfl, t2, kk2⟩
    · obtain ⟨b, hd, hbv⟩ := slotBytes_at' k x 1 (by omega) hx
      have Hq2 : Hid (q = if (mi.write (5 * k + 1) b).2 ≠ 0 then mi.write (5 * k + 1) b else (mi.write (5 * k + 1) b).1.writeAll ((MemM.slotBytes k x).drop 2)) := Lib.hid (by rw [Hqi.out, hd, writeAll_cons]; rfl)
      have hcall := fun W hW => rmemWrite_at mb mi F (5 * k + 1) b (5 * (k : Int) + 1) (x / 16777216) W (by omega) hbv.symm hW (by omega)
      have hwl := write_length mi (5 * k + 1) b
      generalize mi.write (5 * k + 1) b = r at *
      obtain ⟨m2, e2⟩ := r
      simp only at hcall hwl
      have Hq3 : Hid (q = if e2 ≠ 0 then (m2, e2) else m2.writeAll ((MemM.slotBytes k x).drop 2)) := Lib.hid Hq2.out
      clear Hq2 Hqi hd hbv
      go_wp2_with fail
      go_region_held3 (fun w' => w'.cell? ⟨b0, 1, none⟩ = some (.int .i64 1) ∧ w'.cell? ⟨b1, 1, none⟩ = some (.int .u8 (x / 16777216))) (exact ⟨(h0d.cell 1).trans rfl, (h1d.cell 1).trans rfl⟩) (first
        | (go_at_call 92; refine (hcall _ tid).mono ?_; rintro e W2 ⟨rfl, t2, k2, z2⟩; replace h0d := h0d.keep k2 (fun hx => (hFb _ hx).1 rfl); replace h1d := h1d.keep k2 (fun hx => (hFb _ hx).2 rfl)))
      all_goals
        have kk2 := kid.andThen k2 (fun _ _ h => h)
        clear z2 hcall
        by_cases he : e2 = 0
        · subst he
          have Hq4 : Hid (q = m2.writeAll ((MemM.slotBytes k x).drop 2)) := Lib.hid (by rw [Hq3.out]; simp)
          clear Hq3
          go_wp2_with fail
          go_round
          case rel => exact ⟨2, m2, by omega, by go_num, t2, by omega, Hq4, kk2, h0d, h1d⟩
          case measure => simp [intOf]
        · have Hq4 : Hid (q = (m2, e2)) := Lib.hid (by rw [Hq3.out, if_pos he])
          have g1 : (e2 != 0) = true := by simpa using he
          clear Hq3
          go_wp2_with fail
          go_ret
          rw [Hq4.out]
          exact ⟨rfl, t2, kk2⟩
    · obtain ⟨b, hd, hbv⟩ := slotBytes_at' k x 2 (by omega) hx
      have Hq2 : Hid (q = if (mi.write (5 * k + 2) b).2 ≠ 0 then mi.write (5 * k + 2) b else (mi.write (5 * k + 2) b).1.writeAll ((MemM.slotBytes k x).drop 3)) := Lib.hid (by rw [Hqi.out, hd, writeAll_cons]; rfl)
      have hcall := fun W hW => rmemWrite_at mb mi F (5 * k + 2) b (5 * (k : Int) + 2) (x / 65536 % 256) W (by omega) hbv.symm hW (by omega)
      have hwl := write_length mi (5 * k + 2) b
      generalize mi.write (5 * k + 2) b = r at *
      obtain ⟨m2, e2⟩ := r
      simp only at hcall hwl
      have Hq3 : Hid (q = if e2 ≠ 0 then (m2, e2) else m2.writeAll ((MemM.slotBytes k x).drop 3)) := Lib.hid Hq2.out
      clear Hq2 Hqi hd hbv
      go_wp2_with fail
      go_region_held3 (fun w' => w'.cell? ⟨b0, 2, none⟩ = some (.int .i64 2) ∧ w'.cell? ⟨b1, 2, none⟩ = some (.int .u8 (x / 65536 % 256))) (exact ⟨(h0d.cell 2).trans rfl, (h1d.cell 2).trans rfl⟩) (first
        | (go_at_call 92; refine (hcall _ tid).mono ?_; rintro e W2 ⟨rfl, t2, k2, z2⟩; replace h0d := h0d.keep k2 (fun hx => (hFb _ hx).1 rfl); replace h1d := h1d.keep k2 (fun hx => (hFb _ hx).2 rfl)))
      all_goals
        have kk2 := kid.andThen k2 (fun _ _ h => h)
        clear z2 hcall
        by_cases he : e2 = 0
        · subst he
          have Hq4 : Hid (q = m2.writeAll ((MemM.slotBytes k x).drop 3)) := Lib.hid (by rw [Hq3.out]; simp)
          clear Hq3
          go_wp2_with fail
          go_round
          case rel => exact ⟨3, m2, by omega, by go_num, t2, by omega, Hq4, kk2, h0d, h1d⟩
          case measure => simp [intOf]
        · have Hq4 : Hid (q = (m2, e2)) := Lib.hid (by rw [Hq3.out, if_pos he])
          have g1 : (e2 != 0) = true := by simpa using he
          clear Hq3
          go_wp2_with fail
          go_ret
          rw [Hq4.out]
          exact ⟨rfl, t2, kk2⟩
    · obtain ⟨b, hd, hbv⟩ := slotBytes_at' k x 3 (by omega) hx
      have Hq2 : Hid (q = if (mi.write (5 * k + 3) b).2 ≠ 0 then mi.write (5 * k + 3) b else (mi.write (5 * k + 3) b).1.writeAll ((MemM.slotBytes k x).drop 4)) := Lib.hid (by rw [Hqi.out, hd, writeAll_cons]; rfl)
      have hcall := fun W hW => rmemWrite_at mb mi F (5 * k + 3) b (5 * (k : Int) + 3) (x / 256 % 256) W (by omega) hbv.symm hW (by omega)
      have hwl := write_length mi (5 * k + 3) b
      generalize mi.write (5 * k + 3) b = r at *
      obtain ⟨m2, e2⟩ := r
      simp only at hcall hwl
      have Hq3 : Hid (q = if e2 ≠ 0 then (m2, e2) else m2.writeAll ((MemM.slotBytes k x).drop 4)) := Lib.hid Hq2.out
      clear Hq2 Hqi hd hbv
      go_wp2_with fail
      go_region_held3 (fun w' => w'.cell? ⟨b0, 3, none⟩ = some (.int .i64 3) ∧ w'.cell? ⟨b1, 3, none⟩ = some (.int .u8 (x / 256 % 256))) (exact ⟨(h0d.cell 3).trans rfl, (h1d.cell 3).trans rfl⟩) (first
        | (go_at_call 92; refine (hcall _ tid).mono ?_; rintro e W2 ⟨rfl, t2, k2, z2⟩; replace h0d := h0d.keep k2 (fun hx => (hFb _ hx).1 rfl); replace h1d := h1d.keep k2 (fun hx => (hFb _ hx).2 rfl)))
      all_goals
        have kk2 := kid.andThen k2 (fun _ _ h => h)
        clear z2 hcall
        by_cases he : e2 = 0
        · subst he
          have Hq4 : Hid (q = m2.writeAll ((MemM.slotBytes k x).drop 4)) := Lib.hid (by rw [Hq3.out]; simp)
          clear Hq3
          go_wp2_with fail
          go_round
          case rel => exact ⟨4, m2, by omega, by go_num, t2, by omega, Hq4, kk2, h0d, h1d⟩
          case measure => simp [intOf]
        · have Hq4 : Hid (q = (m2, e2)) := Lib.hid (by rw [Hq3.out, if_pos he])
          have g1 : (e2 != 0) = true := by simpa using he
          clear Hq3
          go_wp2_with fail
          go_ret
          rw [Hq4.out]
          exact ⟨rfl, t2, kk2⟩
    · obtain ⟨b, hd, hbv⟩ := slotBytes_at' k x 4 (by omega) hx
      have Hq2 : Hid (q = if (mi.write (5 * k + 4) b).2 ≠ 0 then mi.write (5 * k + 4) b else (mi.write (5 * k + 4) b).1.writeAll ((MemM.slotBytes k x).drop 5)) := Lib.hid (by rw [Hqi.out, hd, writeAll_cons]; rfl)
      have hcall := fun W hW => rmemWrite_at mb mi F (5 * k + 4) b (5 * (k : Int) + 4) (x % 256) W (by omega) hbv.symm hW (by omega)
      have hwl := write_length mi (5 * k + 4) b
      generalize mi.write (5 * k + 4) b = r at *
      obtain ⟨m2, e2⟩ := r
      simp only at hcall hwl
      have Hq3 : Hid (q = if e2 ≠ 0 then (m2, e2) else m2.writeAll ((MemM.slotBytes k x).drop 5)) := Lib.hid Hq2.out
      clear Hq2 Hqi hd hbv
      go_wp2_with fail
      go_region_held3 (fun w' => w'.cell? ⟨b0, 4, none⟩ = some (.int .i64 4) ∧ w'.cell? ⟨b1, 4, none⟩ = some (.int .u8 (x % 256))) (exact ⟨(h0d.cell 4).trans rfl, (h1d.cell 4).trans rfl⟩) (first
        | (go_at_call 92; refine (hcall _ tid).mono ?_; rintro e W2 ⟨rfl, t2, k2, z2⟩; replace h0d := h0d.keep k2 (fun hx => (hFb _ hx).1 rfl); replace h1d := h1d.keep k2 (fun hx => (hFb _ hx).2 rfl)))
      all_goals
        have kk2 := kid.andThen k2 (fun _ _ h => h)
        clear z2 hcall
        by_cases he : e2 = 0
        · subst he
          have Hq4 : Hid (q = m2.writeAll ((MemM.slotBytes k x).drop 5)) := Lib.hid (by rw [Hq3.out]; simp)
          clear Hq3
          go_wp2_with fail
          go_round
          case rel => exact ⟨5, m2, by omega, by go_num, t2, by omega, Hq4, kk2, h0d, h1d⟩
          case measure => simp [intOf]
        · have Hq4 : Hid (q = (m2, e2)) := Lib.hid (by rw [Hq3.out, if_pos he])
          have g1 : (e2 != 0) = true := by simpa using he
          clear Hq3
          go_wp2_with fail
          go_ret
          rw [Hq4.out]
          exact ⟨rfl, t2, kk2⟩
    · obtain ⟨b, hd, hbv⟩ := slotBytes_at' k x 5 (by omega) hx
      have Hq2 : Hid (q = if (mi.write (5 * k + 0) b).2 ≠ 0 then mi.write (5 * k + 0) b else (mi.write (5 * k + 0) b).1.writeAll ((MemM.slotBytes k x).drop 6)) := Lib.hid (by rw [Hqi.out, hd, writeAll_cons]; rfl)
      have hcall := fun W hW => rmemWrite_at mb mi F (5 * k + 0) b (5 * (k : Int)) 165 W (by omega) hbv.symm hW (by omega)
      have hwl := write_length mi (5 * k + 0) b
      generalize mi.write (5 * k + 0) b = r at *
      obtain ⟨m2, e2⟩ := r
      simp only at hcall hwl
      have Hq3 : Hid (q = if e2 ≠ 0 then (m2, e2) else m2.writeAll ((MemM.slotBytes k x).drop 6)) := Lib.hid Hq2.out
      clear Hq2 Hqi hd hbv
      go_wp2_with fail
      go_region_held3 (fun w' => w'.cell? ⟨b0, 5, none⟩ = some (.int .i64 0) ∧ w'.cell? ⟨b1, 5, none⟩ = some (.int .u8 165)) (exact ⟨(h0d.cell 5).trans rfl, (h1d.cell 5).trans rfl⟩) (first
        | (go_at_call 92; refine (hcall _ tid).mono ?_; rintro e W2 ⟨rfl, t2, k2, z2⟩; replace h0d := h0d.keep k2 (fun hx => (hFb _ hx).1 rfl); replace h1d := h1d.keep k2 (fun hx => (hFb _ hx).2 rfl)))
      all_goals
        have kk2 := kid.andThen k2 (fun _ _ h => h)
        clear z2 hcall
        by_cases he : e2 = 0
        · subst he
          have Hq4 : Hid (q = m2.writeAll ((MemM.slotBytes k x).drop 6)) := Lib.hid (by rw [Hq3.out]; simp)
          clear Hq3
          go_wp2_with fail
          go_round
          case rel => exact ⟨6, m2, by omega, by go_num, t2, by omega, Hq4, kk2, h0d, h1d⟩
          case measure => simp [intOf]
        · have Hq4 : Hid (q = (m2, e2)) := Lib.hid (by rw [Hq3.out, if_pos he])
          have g1 : (e2 != 0) = true := by simpa using he
          clear Hq3
          go_wp2_with fail
          go_ret
          rw [Hq4.out]
          exact ⟨rfl, t2, kk2⟩
    · have e6 : q = (mi, 0) := Hqi.out
      subst e6
      clear Hqi
      go_wp2_with fail
      go_ret
      exact ⟨rfl, ti, ki⟩
end Go.Proofs.YtbkkfkbgcklkgaaGreat
