/- The base of the laws, part 15: contracts and plain lemmas, no statement. -/
import Derived.Test.YtlldgfejcjnpkaaGreatBase11
import Derived.Deep.RegionHeld3
set_option linter.unusedVariables false
/- cell's cell by its contracts: repair. -/
namespace Go.Proofs.YtlldgfejcjnpkaaGreat
open Go.RowKit
set_option maxHeartbeats 4000000
set_option maxRecDepth 100000

theorem holds_eq (m : MemM) (k : Nat) (b : Bool) (h : m.holds k = b) : (((m.b.getD (5 * k) 0).toNat : Int) == 165) = b := by
  subst h
  unfold MemM.holds
  rw [Bool.eq_iff_iff]
  simp only [beq_iff_eq]
  constructor
  · intro h
    apply UInt8.toNat_inj.1
    have : ((0xa5 : UInt8)).toNat = 165 := rfl
    omega
  · intro h
    rw [h]
    rfl
/-- A memory behind a call that may make blocks. -/
structure MemGo (w : World) (mb : Nat) (m : MemM) (F : Nat → Prop) (w' : World) : Prop where
  is_ : MemIs w' mb m F
  keep : Keep F w w'
/-- What is left of putting right where no slot holds a word. -/
def restNone (b : List UInt8) : Nat → MemM → MemM × Int × Int
  | 0, m =>
    let a := if b.getD 0 0 = 0 then (m, 0) else m.write 0 0
    if a.2 ≠ 0 then (a.1, 0, a.2) else
    let c := if b.getD 5 0 = 0 then (a.1, 0) else a.1.write 5 0
    (c.1, 0, c.2)
  | 1, m =>
    let c := if b.getD 5 0 = 0 then (m, 0) else m.write 5 0
    (c.1, 0, c.2)
  | _, m => (m, 0, 0)
theorem cellRepair_any (mb : Nat) (m : MemM) (F : Nat → Prop) (a0 a1 x0 x1 : Int) (w : World) (h : MemIs w mb m F) (hb : 10 ≤ m.b.length) (hF : ∀ x, F x → x < w.heap.size)
    (ha0 : a0 = ((m.b.getD (5 * 0) 0).toNat : Int)) (ha1 : a1 = ((m.b.getD (5 * 1) 0).toNat : Int)) (hx0 : x0 = m.word 0) (hx1 : x1 = m.word 1) :
    Calls Tryz.prog 95 #[.pointer (some ⟨mb, 0, none⟩), .agg #[.int .u8 a0, .int .u8 a1], .agg #[.int .u32 x0, .int .u32 x1]] w fun e w' => e = .returned (.tuple #[.int .u32 m.repair.2.1, .int .i64 m.repair.2.2]) ∧ MemGo w mb m.repair.1 F w' := by
  obtain ⟨q, Hq⟩ : ∃ q, Hid (q = m.repair) := ⟨_, Lib.hid rfl⟩
  rw [← Hq.out]
  have hg0 := fun b h => ha0 ▸ holds_eq m 0 b h
  have hg1 := fun b h => ha1 ▸ holds_eq m 1 b h
  have hxr0 := m.word_range 0
  have hxr1 := m.word_range 1
  have hbe : ∀ o1 o2 o3, Below w.heap.size w (((w.alloc o1).alloc o2).alloc o3) := fun o1 o2 o3 => (((Below.refl _ w).alloc (Nat.le_refl _) o1).alloc (by simp) o2).alloc (by simp; omega) o3
  cases h0 : m.holds 0 <;> cases h1 : m.holds 1
  · have e1 : q = restNone m.b 0 m := by
      rw [Hq.out]
      unfold MemM.repair restNone
      simp only [h0, h1, Bool.false_eq_true, if_false]
    have g0 := hg0 _ h0
    have g1 := hg1 _ h1
    have He1 := Lib.hid e1
    have Ha0 := Lib.hid ha0
    have Ha1 := Lib.hid ha1
    clear hg0 hg1 Hq ha0 ha1 hxr0 hxr1 hx0 hx1 e1 h0 h1
    go_enter Tryz.func95, Tryz.ntmps95
    go_upto_region 8 with fail
    obtain ⟨b0, Hb0⟩ : ∃ b, Hid (b = w.heap.size) := ⟨_, Lib.hid rfl⟩
    have hM := h.below (hbe (.cells #[.int .u8 a0, .int .u8 a1] 177) (.cells #[.int .u32 x0, .int .u32 x1] 178) (.cells #[.bool false, .bool false] 247))
    have hk : Keep F w _ := Keep.of_below (hbe (.cells #[.int .u8 a0, .int .u8 a1] 177) (.cells #[.int .u32 x0, .int .u32 x1] 178) (.cells #[.bool false, .bool false] 247))
    have hA : Blk (((w.alloc (.cells #[.int .u8 a0, .int .u8 a1] 177)).alloc (.cells #[.int .u32 x0, .int .u32 x1] 178)).alloc (.cells #[.bool false, .bool false] 247)) w.heap.size 177 #[.int .u8 a0, .int .u8 a1] := ((Blk.new w _ _).alloc _).alloc _
    have hFb : ∀ x, F x → x ≠ w.heap.size := fun x hx => by have := hF x hx; omega
    rw [← Hb0.out] at hA hFb ⊢
    generalize ((w.alloc (.cells #[.int .u8 a0, .int .u8 a1] 177)).alloc (.cells #[.int .u32 x0, .int .u32 x1] 178)).alloc (.cells #[.bool false, .bool false] 247) = W1 at *
    go_wp2_with fail
    go_loopw [48] (fun v48 wl => ∃ (i : Nat) (mi : MemM), i ≤ 2 ∧ v48 = .int .i64 i ∧ MemIs wl mb mi F ∧ mi.b.length = m.b.length ∧ Hid (q = restNone m.b i mi) ∧ Keep F w wl ∧ Blk wl b0 177 #[.int .u8 a0, .int .u8 a1]) (fun v48 _ => 2 - (intOf v48).toNat)
    case atStart => exact ⟨0, m, by omega, rfl, hM, rfl, He1, hk, hA⟩
    case round =>
      obtain ⟨i, mi, hi, rfl, ti, hli, Hqi, ki, hAi⟩ := hrel
      have hc := hAi.cell
      have hcase : i = 0 ∨ i = 1 ∨ i = 2 := by omega
      rcases hcase with rfl | rfl | rfl
      · by_cases hz : a0 = 0
        · have hz' : m.b.getD 0 0 = 0 := UInt8.toNat_inj.1 (by have := Ha0.out; rw [hz] at this; simpa using this.symm)
          have Hq1 : Hid (q = restNone m.b 1 mi) := Lib.hid (by rw [Hqi.out]; simp only [restNone, hz', if_true, ne_eq, not_true_eq_false, if_false])
          have g2 : (a0 != 0) = false := by simpa using hz
          clear Hqi hz hz'
          go_wp2_with fail
          go_round
          case rel => exact ⟨1, mi, by omega, by go_num, ti, hli, Hq1, ki, hAi⟩
          case measure => simp [intOf]
        · have hz' : ¬ m.b.getD 0 0 = 0 := fun e => hz (by have := Ha0.out; rw [show m.b.getD (5 * 0) 0 = 0 from e] at this; simpa using this)
          have g2 : (a0 != 0) = true := by simpa using hz
          have hcall := memWrite_at mb mi F 0 0 0 0 wr rfl rfl ti (by omega)
          have hwl := write_length mi 0 0
          have Hq1 : Hid (q = if (mi.write 0 0).2 ≠ 0 then ((mi.write 0 0).1, 0, (mi.write 0 0).2) else restNone m.b 1 (mi.write 0 0).1) := Lib.hid (by rw [Hqi.out]; simp only [restNone, hz', if_false])
          generalize mi.write 0 0 = r at *
          obtain ⟨m2, e2⟩ := r
          simp only at hcall hwl
          clear Hqi hz hz'
          go_wp2_with fail
          refine hcall.mono ?_
          rintro e w2 ⟨rfl, t2, k2, z2⟩
          have hA2 := hAi.keep k2 (fun hx => hFb _ hx rfl)
          clear z2 hcall hc
          have hk2 := ki.andThen k2 (fun _ _ h => h)
          by_cases he : e2 = 0
          · subst he
            have Hq2 : Hid (q = restNone m.b 1 m2) := Lib.hid (by rw [Hq1.out]; simp)
            clear Hq1
            go_wp2_with fail
            go_round
            case rel => exact ⟨1, m2, by omega, by go_num, t2, by omega, Hq2, hk2, hA2⟩
            case measure => simp [intOf]
          · have Hq2 : Hid (q = (m2, 0, e2)) := Lib.hid (by rw [Hq1.out, if_pos he])
            have g3 : (e2 != 0) = true := by simpa using he
            clear Hq1
            go_wp2_with fail
            have e3 := Hq2.out
            subst e3
            refine bodyPost_ret (v := .tuple #[.int .u32 0, .int .i64 e2]) (by simp [results, Tryz.results95, go_sem]) rfl ⟨rfl, t2, hk2⟩
      · by_cases hz : a1 = 0
        · have hz' : m.b.getD 5 0 = 0 := UInt8.toNat_inj.1 (by have := Ha1.out; rw [hz] at this; simpa using this.symm)
          have Hq1 : Hid (q = restNone m.b 2 mi) := Lib.hid (by rw [Hqi.out]; simp only [restNone, hz', if_true])
          have g2 : (a1 != 0) = false := by simpa using hz
          clear Hqi hz hz'
          go_wp2_with fail
          go_round
          case rel => exact ⟨2, mi, by omega, by go_num, ti, hli, Hq1, ki, hAi⟩
          case measure => simp [intOf]
        · have hz' : ¬ m.b.getD 5 0 = 0 := fun e => hz (by have := Ha1.out; rw [show m.b.getD (5 * 1) 0 = 0 from e] at this; simpa using this)
          have g2 : (a1 != 0) = true := by simpa using hz
          have hcall := memWrite_at mb mi F 5 0 5 0 wr rfl rfl ti (by omega)
          have hwl := write_length mi 5 0
          have Hq1 : Hid (q = ((mi.write 5 0).1, 0, (mi.write 5 0).2)) := Lib.hid (by rw [Hqi.out]; simp only [restNone, hz', if_false])
          generalize mi.write 5 0 = r at *
          obtain ⟨m2, e2⟩ := r
          simp only at hcall hwl
          clear Hqi hz hz'
          go_wp2_with fail
          refine hcall.mono ?_
          rintro e w2 ⟨rfl, t2, k2, z2⟩
          have hA2 := hAi.keep k2 (fun hx => hFb _ hx rfl)
          clear z2 hcall hc
          have hk2 := ki.andThen k2 (fun _ _ h => h)
          by_cases he : e2 = 0
          · subst he
            go_wp2_with fail
            go_round
            case rel => exact ⟨2, m2, by omega, by go_num, t2, by omega, Lib.hid Hq1.out, hk2, hA2⟩
            case measure => simp [intOf]
          · have g3 : (e2 != 0) = true := by simpa using he
            go_wp2_with fail
            have e3 := Hq1.out
            subst e3
            refine bodyPost_ret (v := .tuple #[.int .u32 0, .int .i64 e2]) (by simp [results, Tryz.results95, go_sem]) rfl ⟨rfl, t2, hk2⟩
      · have e3 : q = (mi, 0, 0) := Hqi.out
        subst e3
        clear Hqi
        go_wp2_with fail
        refine bodyPost_ret (v := .tuple #[.int .u32 0, .int .i64 0]) (by simp [results, Tryz.results95, go_sem]) rfl ⟨rfl, ti, ki⟩
  · have e1 : q = ((m.writeSlot 0 x1).1, x1, (m.writeSlot 0 x1).2) := by rw [Hq.out]; unfold MemM.repair; simp only [h0, h1, if_true, Bool.false_eq_true, if_false, hx1]
    have hcall := fun w h => cellWrite_any mb m F 0 0 x1 w rfl h hb (by omega) (by rw [hx1]; exact hxr1)
    have He1 := Lib.hid e1
    have g0 := hg0 _ h0
    have g1 := hg1 _ h1
    generalize m.writeSlot 0 x1 = r at *
    clear hg0 hg1 Hq ha0 ha1 hxr0 hxr1 hx0 hx1 e1
    go_enter Tryz.func95, Tryz.ntmps95
    go_upto_region 7 with fail
    obtain ⟨b1, Hb1⟩ : ∃ b, Hid (b = w.heap.size + 1) := ⟨_, Lib.hid rfl⟩
    have hM := (h.below (hbe (.cells #[.int .u8 a0, .int .u8 a1] 177) (.cells #[.int .u32 x0, .int .u32 x1] 178) (.cells #[.bool false, .bool true] 247))).drewN 1
    have hk : Keep F w _ := Keep.of_below (hbe (.cells #[.int .u8 a0, .int .u8 a1] 177) (.cells #[.int .u32 x0, .int .u32 x1] 178) (.cells #[.bool false, .bool true] 247)).drew
    have hX : Blk (((w.alloc (.cells #[.int .u8 a0, .int .u8 a1] 177)).alloc (.cells #[.int .u32 x0, .int .u32 x1] 178)).alloc (.cells #[.bool false, .bool true] 247)).drew (w.heap.size + 1) 178 #[.int .u32 x0, .int .u32 x1] := ((Blk.new' (w.alloc _) _ _ (by simp)).alloc _).drew
    have hFb : ∀ x, F x → x ≠ w.heap.size + 1 := fun x hx => by have := hF x hx; omega
    replace hM : MemIs (((w.alloc (.cells #[.int .u8 a0, .int .u8 a1] 177)).alloc (.cells #[.int .u32 x0, .int .u32 x1] 178)).alloc (.cells #[.bool false, .bool true] 247)).drew mb m F := hM
    rw [← Hb1.out] at hX hFb ⊢
    go_wp2_with fail
    generalize ((w.alloc (.cells #[.int .u8 a0, .int .u8 a1] 177)).alloc (.cells #[.int .u32 x0, .int .u32 x1] 178)).alloc (.cells #[.bool false, .bool true] 247) = W1 at *
    go_region_held3 (fun w' => w'.cell? ⟨b1, 1, none⟩ = some (.int .u32 x1)) (exact (hX.cell 1).trans rfl) (first
      | (go_at_call 143; refine (hcall _ hM).mono ?_; rintro e W2 ⟨rfl, t2, k2, z2⟩; replace hX := hX.keep k2 (fun hx => hFb _ hx rfl)))
    all_goals
      go_wp2_with fail
      have e3 := He1.out
      subst e3
      refine bodyPost_ret (v := .tuple #[.int .u32 x1, .int .i64 r.2]) (by simp [results, Tryz.results95, go_sem]) rfl ⟨rfl, t2, hk.andThen k2 (fun _ _ h => h)⟩
  · have e1 : q = ((m.writeSlot 1 x0).1, x0, (m.writeSlot 1 x0).2) := by rw [Hq.out]; unfold MemM.repair; simp only [h0, h1, if_true, Bool.false_eq_true, if_false, hx0]
    have hcall := fun w h => cellWrite_any mb m F 1 1 x0 w rfl h hb (by omega) (by rw [hx0]; exact hxr0)
    have He1 := Lib.hid e1
    have g0 := hg0 _ h0
    have g1 := hg1 _ h1
    generalize m.writeSlot 1 x0 = r at *
    clear hg0 hg1 Hq ha0 ha1 hxr0 hxr1 hx0 hx1 e1
    go_enter Tryz.func95, Tryz.ntmps95
    go_upto_region 5 with fail
    obtain ⟨b1, Hb1⟩ : ∃ b, Hid (b = w.heap.size + 1) := ⟨_, Lib.hid rfl⟩
    have hM := (h.below (hbe (.cells #[.int .u8 a0, .int .u8 a1] 177) (.cells #[.int .u32 x0, .int .u32 x1] 178) (.cells #[.bool true, .bool false] 247))).drewN 1
    have hk : Keep F w _ := Keep.of_below (hbe (.cells #[.int .u8 a0, .int .u8 a1] 177) (.cells #[.int .u32 x0, .int .u32 x1] 178) (.cells #[.bool true, .bool false] 247)).drew
    have hX : Blk (((w.alloc (.cells #[.int .u8 a0, .int .u8 a1] 177)).alloc (.cells #[.int .u32 x0, .int .u32 x1] 178)).alloc (.cells #[.bool true, .bool false] 247)).drew (w.heap.size + 1) 178 #[.int .u32 x0, .int .u32 x1] := ((Blk.new' (w.alloc _) _ _ (by simp)).alloc _).drew
    have hFb : ∀ x, F x → x ≠ w.heap.size + 1 := fun x hx => by have := hF x hx; omega
    replace hM : MemIs (((w.alloc (.cells #[.int .u8 a0, .int .u8 a1] 177)).alloc (.cells #[.int .u32 x0, .int .u32 x1] 178)).alloc (.cells #[.bool true, .bool false] 247)).drew mb m F := hM
    rw [← Hb1.out] at hX hFb ⊢
    go_wp2_with fail
    generalize ((w.alloc (.cells #[.int .u8 a0, .int .u8 a1] 177)).alloc (.cells #[.int .u32 x0, .int .u32 x1] 178)).alloc (.cells #[.bool true, .bool false] 247) = W1 at *
    go_region_held3 (fun w' => w'.cell? ⟨b1, 0, none⟩ = some (.int .u32 x0)) (exact (hX.cell 0).trans rfl) (first
      | (go_at_call 143; refine (hcall _ hM).mono ?_; rintro e W2 ⟨rfl, t2, k2, z2⟩; replace hX := hX.keep k2 (fun hx => hFb _ hx rfl)))
    all_goals
      go_wp2_with fail
      have e3 := He1.out
      subst e3
      refine bodyPost_ret (v := .tuple #[.int .u32 x0, .int .i64 r.2]) (by simp [results, Tryz.results95, go_sem]) rfl ⟨rfl, t2, hk.andThen k2 (fun _ _ h => h)⟩
  · have e1 : q = (m, max x0 x1, 0) := by rw [Hq.out]; unfold MemM.repair; simp only [h0, h1, if_true, hx0, hx1]
    subst e1
    have g0 := hg0 _ h0
    have g1 := hg1 _ h1
    clear hg0 hg1 Hq ha0 ha1 hxr0 hxr1 hx0 hx1
    have hend : MemGo w mb m F _ := ⟨h.below (hbe (.cells #[.int .u8 a0, .int .u8 a1] 177) (.cells #[.int .u32 x0, .int .u32 x1] 178) (.cells #[.bool true, .bool true] 247)), Keep.of_below (hbe _ _ _)⟩
    go_enter Tryz.func95, Tryz.ntmps95
    go_wp2_with fail
    · refine bodyPost_ret (v := .tuple #[.int .u32 x1, .int .i64 0]) (by simp [results, Tryz.results95, go_sem]) rfl ⟨?_, hend⟩
      rw [show max x0 x1 = x1 by omega]
    · refine bodyPost_ret (v := .tuple #[.int .u32 x0, .int .i64 0]) (by simp [results, Tryz.results95, go_sem]) rfl ⟨?_, hend⟩
      rw [show max x0 x1 = x0 by omega]
end Go.Proofs.YtlldgfejcjnpkaaGreat
/- cell's cell by its contracts: Open, spare, Next. -/
namespace Go.Proofs.YtlldgfejcjnpkaaGreat
open Go.RowKit
set_option maxHeartbeats 4000000
set_option maxRecDepth 100000

theorem cellOpen_any (mb : Nat) (m : MemM) (F : Nat → Prop) (mx : Int) (w : World) (h : MemIs w mb m F) (ho : m.off = false) (hF : ∀ x, F x → x < w.heap.size) (hmx : 0 ≤ mx ∧ mx < 4294967296) :
    Calls Tryz.prog 47 #[.pointer (some ⟨mb, 0, none⟩), .int .u32 mx] w fun e w' => MemGo w mb (openM m mx).1 F w' ∧
      match (openM m mx).2.1 with
      | some k => ∃ c, e = .returned (.tuple #[.pointer (some ⟨c, 0, none⟩), .int .i64 0]) ∧ (openM m mx).2.2 = 0 ∧ CellIs w' c mb k ∧ w.heap.size ≤ c ∧ c < w'.heap.size
      | none => e = .returned (.tuple #[.pointer none, .int .i64 (openM m mx).2.2]) := by
  have hsz := memSize_any mb m F w h
  by_cases h0 : mx = 0
  · subst h0
    have e1 : openM m 0 = (m, none, 2) := by unfold openM; rw [if_pos (.inl rfl)]
    rw [e1]
    go_enter Tryz.func47, Tryz.ntmps47
    go_wp2_with fail
    refine bodyPost_ret (v := .tuple #[.pointer none, .int .i64 2]) (by simp [results, Tryz.results47, go_sem]) rfl ⟨⟨h, Keep.refl _ _⟩, rfl⟩
  have g0 : (mx == 0) = false := by simpa using h0
  by_cases h1 : m.b.length < 10
  · have e1 : openM m mx = (m, none, 2) := by unfold openM; rw [if_pos (.inr h1)]
    rw [e1]
    have g1 : ((m.b.length : Int) < 10) := by omega
    go_enter Tryz.func47, Tryz.ntmps47
    go_wp2_with (go_at_call 93; refine hsz.mono ?_; rintro e w1 ⟨rfl, rfl⟩)
    refine bodyPost_ret (v := .tuple #[.pointer none, .int .i64 2]) (by simp [results, Tryz.results47, go_sem]) rfl ⟨⟨h, Keep.refl _ _⟩, rfl⟩
  have g1 : ¬ ((m.b.length : Int) < 10) := by omega
  rw [openM_repair m mx h0 (by omega) ho]
  have H1 := Lib.hid h1
  obtain ⟨r, Hr⟩ : ∃ r, Hid (r = m.repair) := ⟨_, Lib.hid rfl⟩
  rw [← Hr.out]
  go_enter Tryz.func47, Tryz.ntmps47
  go_upto_region 7 with (go_at_call 93; refine hsz.mono ?_; rintro e w1 ⟨rfl, rfl⟩)
  obtain ⟨a0, Ha0⟩ : ∃ a, Hid (a = ((m.b.getD (5 * 0) 0).toNat : Int)) := ⟨_, Lib.hid rfl⟩
  obtain ⟨a1, Ha1⟩ : ∃ a, Hid (a = ((m.b.getD (5 * 1) 0).toNat : Int)) := ⟨_, Lib.hid rfl⟩
  obtain ⟨x0, Hx0⟩ : ∃ a, Hid (a = m.word 0) := ⟨_, Lib.hid rfl⟩
  obtain ⟨x1, Hx1⟩ : ∃ a, Hid (a = m.word 1) := ⟨_, Lib.hid rfl⟩
  have hr0 := fun w h => cellRead_any mb m F 0 0 w rfl h ho (by have := H1.out; omega) (by omega)
  have hr1 := fun w h => cellRead_any mb m F 1 1 w rfl h ho (by have := H1.out; omega) (by omega)
  rw [← Ha0.out, ← Hx0.out] at hr0
  rw [← Ha1.out, ← Hx1.out] at hr1
  have hbe : Below w1.heap.size w1 ((w1.alloc (.cells #[.int .u8 0, .int .u8 0] 177)).alloc (.cells #[.int .u32 0, .int .u32 0] 178)) := ((Below.refl _ w1).alloc (Nat.le_refl _) _).alloc (by simp) _
  have hB0 : Blk ((w1.alloc (.cells #[.int .u8 0, .int .u8 0] 177)).alloc (.cells #[.int .u32 0, .int .u32 0] 178)) w1.heap.size 177 #[.int .u8 0, .int .u8 0] := (Blk.new w1 _ _).alloc _
  have hB1 : Blk ((w1.alloc (.cells #[.int .u8 0, .int .u8 0] 177)).alloc (.cells #[.int .u32 0, .int .u32 0] 178)) (w1.heap.size + 1) 178 #[.int .u32 0, .int .u32 0] := Blk.new' (w1.alloc _) _ _ (by simp)
  obtain ⟨b0, Hb0⟩ : ∃ b, Hid (b = w1.heap.size) := ⟨_, Lib.hid rfl⟩
  obtain ⟨b1, Hb1⟩ : ∃ b, Hid (b = w1.heap.size + 1) := ⟨_, Lib.hid rfl⟩
  have hne : b0 ≠ b1 := by have := Hb0.out; have := Hb1.out; omega
  have hbl : w1.heap.size ≤ b0 ∧ w1.heap.size ≤ b1 := by have := Hb0.out; have := Hb1.out; omega
  have HF := Lib.hid hF
  rw [← Hb1.out] at hB1 ⊢
  rw [← Hb0.out] at hB0 ⊢
  have hFo : ∀ x, F x → ¬ (x = b0 ∨ x = b1) := fun x hx e => by have := HF.out x hx; omega
  generalize (w1.alloc (.cells #[.int .u8 0, .int .u8 0] 177)).alloc (.cells #[.int .u32 0, .int .u32 0] 178) = W1 at *
  have hM := h.below hbe
  clear hsz
  go_wp2_with fail
  go_loopw [25] (fun v25 wl => ∃ (i : Nat) (p0 p1 q0 q1 : Int), i ≤ 2 ∧ v25 = .int .i64 i ∧ MemIs wl mb m F ∧ Below w1.heap.size w1 wl ∧ Blk wl b0 177 #[.int .u8 p0, .int .u8 p1] ∧ Blk wl b1 178 #[.int .u32 q0, .int .u32 q1] ∧ Hid (0 < i → p0 = a0 ∧ q0 = x0) ∧ Hid (1 < i → p1 = a1 ∧ q1 = x1)) (fun v25 _ => 2 - (intOf v25).toNat)
  case atStart => exact ⟨0, 0, 0, 0, 0, by omega, rfl, hM, hbe, hB0, hB1, Lib.hid (fun h => by omega), Lib.hid (fun h => by omega)⟩
  case round =>
    obtain ⟨i, p0, p1, q0, q1, hi, rfl, ti, hbi, hi0, hi1, Hp0, Hp1⟩ := hrel
    have hc0 := hi0.cell
    have hc1 := hi1.cell
    have hf0 := hi0.frozen
    have hf1 := hi1.frozen
    have hcase : i = 0 ∨ i = 1 ∨ i = 2 := by omega
    have hst : ∀ (W : World) (A C : Nat) (j k : Nat) (u v : Value), MemIs W mb m F → MemIs ((W.setCell ⟨b0, j, none⟩ u).setCell ⟨b1, k, none⟩ v) mb m F := fun W A C j k u v hW => hW.keep (S := fun x => x = b0 ∨ x = b1) (((Keep.refl _ W).setCell (p := ⟨b0, j, none⟩) (fun _ => .inl rfl) _).setCell (p := ⟨b1, k, none⟩) (fun _ => .inr rfl) _) (fun x hx => hFo x hx) (fun _ h => h)
    have hne' := hne.symm
    rcases hcase with rfl | rfl | rfl
    · go_wp2_with fail
      refine (hr0 wr ti).mono ?_
      rintro e w2 ⟨rfl, rfl⟩
      go_wp2_with fail
      go_round
      case rel =>
        refine ⟨1, a0, p1, x0, q1, by omega, by go_num, hst _ 0 0 _ _ _ _ ti, (hbi.setCell (p := ⟨b0, 0, none⟩) hbl.1 _).setCell (p := ⟨b1, 0, none⟩) hbl.2 _, ?_, ?_, Lib.hid (fun _ => ⟨rfl, rfl⟩), Lib.hid (fun h => by omega)⟩
        · simpa using (hi0.set_ 0 (.int .u8 a0)).far (p := ⟨b1, 0, none⟩) hne (.int .u32 x0)
        · simpa using (hi1.far (p := ⟨b0, 0, none⟩) hne' (.int .u8 a0)).set_ 0 (.int .u32 x0)
      case measure => simp [intOf]
    · go_wp2_with fail
      refine (hr1 wr ti).mono ?_
      rintro e w2 ⟨rfl, rfl⟩
      go_wp2_with fail
      go_round
      case rel =>
        refine ⟨2, p0, a1, q0, x1, by omega, by go_num, hst _ 0 0 _ _ _ _ ti, (hbi.setCell (p := ⟨b0, 1, none⟩) hbl.1 _).setCell (p := ⟨b1, 1, none⟩) hbl.2 _, ?_, ?_, Lib.hid (fun _ => Hp0.out (by omega)), Lib.hid (fun h => ⟨rfl, rfl⟩)⟩
        · simpa using (hi0.set_ 1 (.int .u8 a1)).far (p := ⟨b1, 1, none⟩) hne (.int .u32 x1)
        · simpa using (hi1.far (p := ⟨b0, 1, none⟩) hne' (.int .u8 a1)).set_ 1 (.int .u32 x1)
      case measure => simp [intOf]
    · obtain ⟨rfl, rfl⟩ := Hp0.out (by omega)
      obtain ⟨rfl, rfl⟩ := Hp1.out (by omega)
      have hrep := cellRepair_any mb m F p0 p1 q0 q1 wr ti (by have := H1.out; omega) (fun x hx => by have := HF.out x hx; have := hbi.size; omega) Ha0.out Ha1.out Hx0.out Hx1.out
      rw [← Hr.out] at hrep
      clear Hr
      obtain ⟨mr, vr, er⟩ := r
      simp only at hrep ⊢
      clear hst hr0 hr1 Ha0 Ha1 Hx0 Hx1 Hp0 Hp1
      have hki : Keep F w1 wr := Keep.of_below hbi
      by_cases he : er = 0
      · subst he
        go_wp2_with fail
        refine hrep.mono ?_
        rintro e w2 ⟨rfl, t2⟩
        have hs2 := t2.keep.size
        have hsi := hbi.size
        clear hc0 hc1 hf0 hf1
        go_wp2_with fail
        refine bodyPost_ret (v := .tuple #[.pointer (some ⟨w2.heap.size, 0, none⟩), .int .i64 0]) (by simp [results, Tryz.results47, go_sem]) rfl ⟨⟨t2.is_.below ((Below.refl _ w2).alloc (Nat.le_refl _) _), (hki.andThen t2.keep (fun _ _ h => h)).alloc _⟩, ?_⟩
        exact ⟨w2.heap.size, rfl, Blk.new w2 _ _, by omega, by simp⟩
      · have g2 : (er != 0) = true := by simpa using he
        go_wp2_with fail
        refine hrep.mono ?_
        rintro e w2 ⟨rfl, t2⟩
        go_wp2_with fail
        refine bodyPost_ret (v := .tuple #[.pointer none, .int .i64 er]) (by simp [results, Tryz.results47, go_sem]) rfl ⟨⟨t2.is_, hki.andThen t2.keep (fun _ _ h => h)⟩, rfl⟩
theorem cellSpare_any (c mb : Nat) (k : CellM) (m : MemM) (F : Nat → Prop) (w : World) (h : MemIs w mb m F) (hC : CellIs w c mb k) (ho : m.off = false) (hF : ∀ x, F x → x < w.heap.size) (hb : 10 ≤ m.b.length) :
    Calls Tryz.prog 226 #[.pointer (some ⟨c, 0, none⟩)] w fun e w' => e = .returned (.tuple #[.int .i64 (if m.holds 0 && (!m.holds 1 || decide (m.word 1 < m.word 0)) then 1 else 0), .int .i64 0]) ∧ Below w.heap.size w w' := by
  obtain ⟨a0, Ha0⟩ : ∃ a, Hid (a = ((m.b.getD (5 * 0) 0).toNat : Int)) := ⟨_, Lib.hid rfl⟩
  obtain ⟨a1, Ha1⟩ : ∃ a, Hid (a = ((m.b.getD (5 * 1) 0).toNat : Int)) := ⟨_, Lib.hid rfl⟩
  obtain ⟨x0, Hx0⟩ : ∃ a, Hid (a = m.word 0) := ⟨_, Lib.hid rfl⟩
  obtain ⟨x1, Hx1⟩ : ∃ a, Hid (a = m.word 1) := ⟨_, Lib.hid rfl⟩
  have hr0 := fun w h => cellRead_any mb m F 0 0 w rfl h ho hb (by omega)
  have hr1 := fun w h => cellRead_any mb m F 1 1 w rfl h ho hb (by omega)
  rw [← Ha0.out, ← Hx0.out] at hr0
  rw [← Ha1.out, ← Hx1.out] at hr1
  rw [← Hx0.out, ← Hx1.out]
  obtain ⟨res, Hres⟩ : ∃ r : Int, Hid (r = if m.holds 0 && (!m.holds 1 || decide (x1 < x0)) then 1 else 0) := ⟨_, Lib.hid rfl⟩
  rw [← Hres.out]
  have hclt := Blk.lt hC
  have hbe : Below w.heap.size w ((w.alloc (.cells #[.int .u8 0, .int .u8 0] 177)).alloc (.cells #[.int .u32 0, .int .u32 0] 178)) := ((Below.refl _ w).alloc (Nat.le_refl _) _).alloc (by simp) _
  have hB0 : Blk ((w.alloc (.cells #[.int .u8 0, .int .u8 0] 177)).alloc (.cells #[.int .u32 0, .int .u32 0] 178)) w.heap.size 177 #[.int .u8 0, .int .u8 0] := (Blk.new w _ _).alloc _
  have hB1 : Blk ((w.alloc (.cells #[.int .u8 0, .int .u8 0] 177)).alloc (.cells #[.int .u32 0, .int .u32 0] 178)) (w.heap.size + 1) 178 #[.int .u32 0, .int .u32 0] := Blk.new' (w.alloc _) _ _ (by simp)
  obtain ⟨b0, Hb0⟩ : ∃ b, Hid (b = w.heap.size) := ⟨_, Lib.hid rfl⟩
  obtain ⟨b1, Hb1⟩ : ∃ b, Hid (b = w.heap.size + 1) := ⟨_, Lib.hid rfl⟩
  have hne : b0 ≠ b1 := by have := Hb0.out; have := Hb1.out; omega
  have hbl : w.heap.size ≤ b0 ∧ w.heap.size ≤ b1 := by have := Hb0.out; have := Hb1.out; omega
  have HF := Lib.hid hF
  have hFo : ∀ x, F x → ¬ (x = b0 ∨ x = b1) := fun x hx e => by have := HF.out x hx; omega
  have hg0 := fun b h => Ha0.out ▸ holds_eq m 0 b h
  have hg1 := fun b h => Ha1.out ▸ holds_eq m 1 b h
  go_enter Tryz.func226, Tryz.ntmps226
  go_upto_region 3 with fail
  rw [← Hb1.out] at hB1 ⊢
  rw [← Hb0.out] at hB0 ⊢
  have hC0 := Blk.below hC hbe hclt
  generalize (w.alloc (.cells #[.int .u8 0, .int .u8 0] 177)).alloc (.cells #[.int .u32 0, .int .u32 0] 178) = W1 at *
  have hM := h.below hbe
  go_wp2_with fail
  go_loopw [10] (fun v10 wl => ∃ (i : Nat) (p0 p1 q0 q1 : Int), i ≤ 2 ∧ v10 = .int .i64 i ∧ MemIs wl mb m F ∧ Below w.heap.size w wl ∧ Blk wl b0 177 #[.int .u8 p0, .int .u8 p1] ∧ Blk wl b1 178 #[.int .u32 q0, .int .u32 q1] ∧ Hid (0 < i → p0 = a0 ∧ q0 = x0) ∧ Hid (1 < i → p1 = a1 ∧ q1 = x1) ∧ wl.cell? ⟨c, 0, none⟩ = some (.pointer (some ⟨mb, 0, none⟩))) (fun v10 _ => 2 - (intOf v10).toNat)
  case atStart => exact ⟨0, 0, 0, 0, 0, by omega, rfl, hM, hbe, hB0, hB1, Lib.hid (fun h => by omega), Lib.hid (fun h => by omega), (Blk.cell hC0 0).trans rfl⟩
  case round =>
    obtain ⟨i, p0, p1, q0, q1, hi, rfl, ti, hbi, hi0, hi1, Hp0, Hp1, hcc⟩ := hrel
    have hc0 := hi0.cell
    have hc1 := hi1.cell
    have hf0 := hi0.frozen
    have hf1 := hi1.frozen
    have hcase : i = 0 ∨ i = 1 ∨ i = 2 := by omega
    have hst : ∀ (W : World) (j k : Nat) (u v : Value), MemIs W mb m F → MemIs ((W.setCell ⟨b0, j, none⟩ u).setCell ⟨b1, k, none⟩ v) mb m F := fun W j k u v hW => hW.keep (S := fun x => x = b0 ∨ x = b1) (((Keep.refl _ W).setCell (p := ⟨b0, j, none⟩) (fun _ => .inl rfl) _).setCell (p := ⟨b1, k, none⟩) (fun _ => .inr rfl) _) (fun x hx => hFo x hx) (fun _ h => h)
    have hne' := hne.symm
    have hcb : b0 ≠ c ∧ b1 ≠ c := by omega
    have hsc : ∀ (W : World) (j k : Nat) (u v : Value), ((W.setCell ⟨b0, j, none⟩ u).setCell ⟨b1, k, none⟩ v).cell? ⟨c, 0, none⟩ = W.cell? ⟨c, 0, none⟩ := fun W j k u v => (cellS _ hcb.2 k v 0).trans (cellS _ hcb.1 j u 0)
    rcases hcase with rfl | rfl | rfl
    · go_wp2_with fail
      refine (hr0 wr ti).mono ?_
      rintro e w2 ⟨rfl, rfl⟩
      go_wp2_with fail
      go_round
      case rel =>
        refine ⟨1, a0, p1, x0, q1, by omega, by go_num, hst _ _ _ _ _ ti, (hbi.setCell (p := ⟨b0, 0, none⟩) hbl.1 _).setCell (p := ⟨b1, 0, none⟩) hbl.2 _, ?_, ?_, Lib.hid (fun _ => ⟨rfl, rfl⟩), Lib.hid (fun h => by omega), (hsc _ _ _ _ _).trans hcc⟩
        · simpa using (hi0.set_ 0 (.int .u8 a0)).far (p := ⟨b1, 0, none⟩) hne (.int .u32 x0)
        · simpa using (hi1.far (p := ⟨b0, 0, none⟩) hne' (.int .u8 a0)).set_ 0 (.int .u32 x0)
      case measure => simp [intOf]
    · go_wp2_with fail
      refine (hr1 wr ti).mono ?_
      rintro e w2 ⟨rfl, rfl⟩
      go_wp2_with fail
      go_round
      case rel =>
        refine ⟨2, p0, a1, q0, x1, by omega, by go_num, hst _ _ _ _ _ ti, (hbi.setCell (p := ⟨b0, 1, none⟩) hbl.1 _).setCell (p := ⟨b1, 1, none⟩) hbl.2 _, ?_, ?_, Lib.hid (fun _ => Hp0.out (by omega)), Lib.hid (fun h => ⟨rfl, rfl⟩), (hsc _ _ _ _ _).trans hcc⟩
        · simpa using (hi0.set_ 1 (.int .u8 a1)).far (p := ⟨b1, 1, none⟩) hne (.int .u32 x1)
        · simpa using (hi1.far (p := ⟨b0, 1, none⟩) hne' (.int .u8 a1)).set_ 1 (.int .u32 x1)
      case measure => simp [intOf]
    · obtain ⟨rfl, rfl⟩ := Hp0.out (by omega)
      obtain ⟨rfl, rfl⟩ := Hp1.out (by omega)
      clear hst hsc hr0 hr1 Ha0 Ha1 Hx0 Hx1 Hp0 Hp1
      cases h0 : m.holds 0 with
      | false =>
        have g0 := hg0 _ h0
        have n0 : ¬ p0 = 165 := by simpa using g0
        clear hg0 hg1
        have e3 : res = 0 := by rw [Hres.out, h0]; rfl
        subst e3
        go_wp2_with fail
        refine bodyPost_ret (v := .tuple #[.int .i64 0, .int .i64 0]) (by simp [results, Tryz.results226, go_sem]) rfl ⟨rfl, hbi⟩
      | true =>
        have g0 := hg0 _ h0
        have n0 : p0 = 165 := by simpa using g0
        cases h1 : m.holds 1 with
        | false =>
          have g1 := hg1 _ h1
          have g1' : (p1 != 165) = true := by simpa using g1
          have n1 : ¬ p1 = 165 := by simpa using g1
          clear hg0 hg1
          have e3 : res = 1 := by rw [Hres.out, h0, h1]; rfl
          subst e3
          go_wp2_with fail
          refine bodyPost_ret (v := .tuple #[.int .i64 1, .int .i64 0]) (by simp [results, Tryz.results226, go_sem]) rfl ⟨rfl, hbi⟩
        | true =>
          have g1 := hg1 _ h1
          have g1' : (p1 != 165) = false := by simpa using g1
          have n1 : p1 = 165 := by simpa using g1
          clear hg0 hg1
          by_cases hlt : q1 < q0
          · have e3 : res = 1 := by rw [Hres.out, h0, h1]; simp [hlt]
            subst e3
            go_wp2_with fail
            refine bodyPost_ret (v := .tuple #[.int .i64 1, .int .i64 0]) (by simp [results, Tryz.results226, go_sem]) rfl ⟨rfl, hbi⟩
          · have e3 : res = 0 := by rw [Hres.out, h0, h1]; simp [hlt]
            subst e3
            go_wp2_with fail
            refine bodyPost_ret (v := .tuple #[.int .i64 0, .int .i64 0]) (by simp [results, Tryz.results226, go_sem]) rfl ⟨rfl, hbi⟩
theorem cellNext_any (c mb : Nat) (k : CellM) (m : MemM) (F : Nat → Prop) (w : World) (h : MemIs w mb m F) (hC : CellIs w c mb k) (hF : ∀ x, F x → x < w.heap.size) (hcF : ¬ F c) (hb : 10 ≤ m.b.length) (hv : 0 ≤ k.value ∧ k.max < 4294967296) :
    Calls Tryz.prog 214 #[.pointer (some ⟨c, 0, none⟩)] w fun e w' => e = .returned (.tuple #[.int .u32 (k.next m).2.2.1, .int .i64 (k.next m).2.2.2]) ∧ MemIs w' mb (k.next m).2.1 F ∧ CellIs w' c mb (k.next m).1 ∧ Keep (fun x => F x ∨ x = c) w w' := by
  have hc := Blk.cell hC
  have hoff := memOff_any mb m F w h
  by_cases h0 : (k.dead || m.off) = true
  · have e1 : k.next m = (k, m, 0, 70) := by unfold CellM.next; rw [if_pos h0]
    rw [e1]
    cases hd : k.dead with
    | true =>
      rw [hd] at hc
      go_enter Tryz.func214, Tryz.ntmps214
      go_wp2_with fail
      refine bodyPost_ret (v := .tuple #[.int .u32 0, .int .i64 70]) (by simp [results, Tryz.results214, go_sem]) rfl ⟨rfl, h, hC, Keep.refl _ _⟩
    | false =>
      have ho : m.off = true := by rw [hd] at h0; simpa using h0
      rw [hd] at hc
      rw [ho] at hoff
      go_enter Tryz.func214, Tryz.ntmps214
      go_wp2_with (go_at_call 225; refine hoff.mono ?_; rintro e w1 ⟨rfl, rfl⟩)
      refine bodyPost_ret (v := .tuple #[.int .u32 0, .int .i64 70]) (by simp [results, Tryz.results214, go_sem]) rfl ⟨rfl, h, hC, Keep.refl _ _⟩
  · obtain ⟨hd, ho⟩ : k.dead = false ∧ m.off = false := by
      cases hd : k.dead <;> cases ho : m.off <;> simp_all
    rw [hd] at hc
    rw [ho] at hoff
    by_cases h1 : k.max ≤ k.value
    · have e1 : k.next m = (k, m, 0, 80) := by unfold CellM.next; rw [if_neg h0, if_pos h1]
      rw [e1]
      go_enter Tryz.func214, Tryz.ntmps214
      go_wp2_with (go_at_call 225; refine hoff.mono ?_; rintro e w1 ⟨rfl, rfl⟩)
      go_big_quiet (fail)
      go_wp2_with fail
      refine bodyPost_ret (v := .tuple #[.int .u32 0, .int .i64 80]) (by simp [results, Tryz.results214, go_sem]) rfl ⟨rfl, h.drewN _, Blk.drewN hC _, (Keep.refl _ _).drewN _⟩
    · have hsp := cellSpare_any c mb k m F
      obtain ⟨s, Hs⟩ : ∃ s : Nat, Hid (s = if m.holds 0 && (!m.holds 1 || decide (m.word 1 < m.word 0)) then 1 else 0) := ⟨_, Lib.hid rfl⟩
      have hsi : (if m.holds 0 && (!m.holds 1 || decide (m.word 1 < m.word 0)) then (1 : Int) else 0) = (s : Int) := by rw [Hs.out]; split <;> rfl
      have hs2 : s < 2 := by rw [Hs.out]; split <;> omega
      rw [hsi] at hsp
      have hwr : IntKind.u32.wrap (k.value + 1) = k.value + 1 := IntWalk.u32_in _ (by omega)
      obtain ⟨q, Hq⟩ : ∃ q, Hid (q = k.next m) := ⟨_, Lib.hid rfl⟩
      have Hq1 : Hid (q = if (m.writeSlot s (k.value + 1)).2 ≠ 0 then ({ k with dead := true }, (m.writeSlot s (k.value + 1)).1, 0, 70) else ({ k with value := k.value + 1 }, (m.writeSlot s (k.value + 1)).1, k.value + 1, 0)) := Lib.hid (by
        rw [Hq.out]; unfold CellM.next; rw [if_neg h0, if_neg h1, ← Hs.out])
      have hw := fun w h => cellWrite_any mb m F s (s : Int) (k.value + 1) w rfl h hb hs2 (by omega)
      rw [← Hq.out]
      generalize m.writeSlot s (k.value + 1) = r at *
      obtain ⟨mr, er⟩ := r
      simp only at hw
      have Hq2 : Hid (q = if er ≠ 0 then ({ k with dead := true }, mr, 0, 70) else ({ k with value := k.value + 1 }, mr, k.value + 1, 0)) := Lib.hid Hq1.out
      clear Hq Hq1 hsi Hs
      go_enter Tryz.func214, Tryz.ntmps214
      go_wp2_with (go_at_call 225; refine hoff.mono ?_; rintro e w1 ⟨rfl, rfl⟩)
      go_big_quiet (fail)
      have hM1 := h.drewN nq
      have hC1 : CellIs (w1.drewN nq) c mb k := Blk.drewN hC nq
      have hk1 := (Keep.refl (fun x => F x ∨ x = c) w1).drewN nq
      have hF1 : ∀ x, F x → x < (w1.drewN nq).heap.size := hF
      generalize w1.drewN nq = W1 at *
      clear hc hoff
      go_wp2_with fail
      refine (hsp W1 hM1 hC1 ho hF1 hb).mono ?_
      rintro e W2 ⟨rfl, hb2⟩
      have hM2 := (hM1.below hb2).drewN 1
      have hC2 : CellIs W2.drew c mb k := (Blk.below hC1 hb2 (Blk.lt hC1)).drew
      have hk2 := (hk1.andThen (S' := fun _ => False) (Keep.of_below hb2) (fun _ _ h => h.elim)).drew
      replace hM2 : MemIs W2.drew mb m F := hM2
      go_wp2_with fail
      go_region_held3 (fun w' => w'.cell? ⟨c, 0, none⟩ = some (.pointer (some ⟨mb, 0, none⟩)) ∧ w'.cell? ⟨c, 2, none⟩ = some (.int .u32 k.value)) (exact ⟨(Blk.cell hC2 0).trans rfl, (Blk.cell hC2 2).trans rfl⟩) (first
        | (go_at_call 143; refine (hw _ hM2).mono ?_; rintro e W3 ⟨rfl, t3, k3, z3⟩; replace hC2 : CellIs W3 c mb k := Blk.keep hC2 k3 hcF))
      all_goals
        have hk3 := hk2.andThen k3 (fun x _ hx => .inl hx)
        have hc3 := Blk.cell hC2
        have hf3 := Blk.frozen hC2
        clear z3
        by_cases he : er = 0
        · have hq := Hq2.out
          rw [if_neg (by simpa using he)] at hq
          subst hq
          subst he
          have hset : CellIs (W3.setCell ⟨c, 2, none⟩ (.int .u32 (k.value + 1))) c mb ⟨k.max, k.value + 1, false⟩ := by simpa [CellIs, hd] using Blk.set_ hC2 2 (.int .u32 (k.value + 1))
          have hMe := t3.keep (S := fun x => x = c) ((Keep.refl (fun x => x = c) W3).setCell (p := ⟨c, 2, none⟩) (fun _ => rfl) (.int .u32 (k.value + 1))) (fun x hx e => hcF (e ▸ hx)) (fun _ h => h)
          go_wp2_with fail
          refine bodyPost_ret (v := .tuple #[.int .u32 (k.value + 1), .int .i64 0]) (by simp [results, Tryz.results214, go_sem]) rfl ⟨rfl, hMe, hset, hk3.setCell (p := ⟨c, 2, none⟩) (fun _ => .inr rfl) _⟩
        · have hq := Hq2.out
          rw [if_pos he] at hq
          subst hq
          have g2 : (er != 0) = true := by simpa using he
          have hset : CellIs (W3.setCell ⟨c, 3, none⟩ (.bool true)) c mb { k with dead := true } := by simpa [CellIs] using Blk.set_ hC2 3 (.bool true)
          have hMe := t3.keep (S := fun x => x = c) ((Keep.refl (fun x => x = c) W3).setCell (p := ⟨c, 3, none⟩) (fun _ => rfl) (.bool true)) (fun x hx e => hcF (e ▸ hx)) (fun _ h => h)
          go_wp2_with fail
          refine bodyPost_ret (v := .tuple #[.int .u32 0, .int .i64 70]) (by simp [results, Tryz.results214, go_sem]) rfl ⟨rfl, hMe, hset, hk3.setCell (p := ⟨c, 3, none⟩) (fun _ => .inr rfl) _⟩
end Go.Proofs.YtlldgfejcjnpkaaGreat
/- A device's fresh. -/
namespace Go.Proofs.YtlldgfejcjnpkaaGreat
open Go.RowKit
set_option maxHeartbeats 10000000
set_option maxRecDepth 100000

/-- A device whose life is still to be laid. -/
structure DevPre (B : Nat) (w : World) (a mb : Nat) (p : ParM) (mx : Int) (L : List Rec) (M : MemM) (C : CellM) (κ : Nat → Option Nat) (c g : Nat) (x8 x9 x11 x12 x13 x14 x15 x16 x17 : Value) : Prop where
  blk : Blk w a 132 #[.int .u32 p.code, .int .i64 p.out, .int .i64 p.inn, .int .i64 p.watch, .int .u32 p.count, .pointer (some ⟨mb, 0, none⟩), .int .u32 mx, .pointer (some ⟨c, 0, none⟩), x8, x9, .pointer (some ⟨g, 0, none⟩), x11, x12, x13, x14, x15, x16, x17]
  log : DiagIs w g L (Of κ 3)
  mem : MemIs w mb M (Of κ 5)
  cell : CellIs w c mb C
  ka : Of κ 0 a
  kc : Of κ 6 c
  lo : ∀ x, κ x ≠ none → B ≤ x ∧ x < w.heap.size
theorem devFresh_any (B a mb : Nat) (p : ParM) (mx : Int) (L : List Rec) (M : MemM) (C : CellM) (κ : Nat → Option Nat) (c g : Nat) (x8 x9 x11 x12 x13 x14 x15 x16 x17 : Value) (w : World) (hp : p.lawful = true) (h : DevPre B w a mb p mx L M C κ c g x8 x9 x11 x12 x13 x14 x15 x16 x17) :
    Calls Tryz.prog 49 #[.pointer (some ⟨a, 0, none⟩)] w fun e w' => e = .returned (.tuple #[]) ∧ (∃ κ' d v val, DevAt B w' a mb { p := p, m := M, max := mx, cell := C, log := L, value := List.replicate p.inn.toNat 0 } κ' c d v g val ∧ (∀ x, κ' x ≠ none → κ x ≠ none ∨ (w.heap.size ≤ x ∧ x < w'.heap.size))) ∧ Keep (fun x => x = a) w w' := by
  have hlaw := hp
  simp [ParM.lawful] at hlaw
  obtain ⟨N, hN⟩ : ∃ N : Nat, p.inn = (N : Int) := ⟨p.inn.toNat, by omega⟩
  have hN8 : N ≤ 8 := by omega
  have HN := Lib.hid hN
  have hd := fun w => dogNew_any p.watch w (by omega) (by omega)
  have hv := fun w => valveNew_any p.out w (by omega) (by omega)
  have hmk := run_make_row' (P := Tryz.prog) 22 5 (.int .u8 0) 1 Tryz.underlying22 byte_info rfl .i64 .i64 N (by omega) (by omega)
  have hb := h.blk
  rw [hN] at hb
  have hlo := h.lo
  have hka := h.ka
  have hin : ∀ t x, Of κ t x → B ≤ x ∧ x < w.heap.size := fun t x hx => hlo x (by rw [show κ x = some t from hx]; simp)
  clear hlaw hN
  have hc := hb.cell
  go_enter Tryz.func49, Tryz.ntmps49
  go_wp2_with fail
  refine (hd _).mono ?_
  rintro e W1 ⟨rfl, hW⟩
  have hb1 : Blk W1 a 132 _ := hW ▸ hb.alloc _
  have hd1 : DogIs W1 w.heap.size p.watch 0 := hW ▸ Blk.new w _ _
  have hbe1 : Below w.heap.size w W1 := hW ▸ (Below.refl _ w).alloc (Nat.le_refl _) _
  have hz1 : Hid (W1.heap.size = w.heap.size + 1) := Lib.hid (by rw [hW]; simp)
  obtain ⟨d0, Hd0⟩ : ∃ e, Hid (e = w.heap.size) := ⟨_, Lib.hid rfl⟩
  rw [← Hd0.out] at hd1 ⊢
  clear hW hc
  have hc := hb1.cell
  have hf := hb1.frozen
  go_wp2_with fail
  have hb2 : Blk (W1.setCell ⟨a, 8, none⟩ (.pointer (some ⟨d0, 0, none⟩))) a 132 #[.int .u32 p.code, .int .i64 p.out, .int .i64 N, .int .i64 p.watch, .int .u32 p.count, .pointer (some ⟨mb, 0, none⟩), .int .u32 mx, .pointer (some ⟨c, 0, none⟩), .pointer (some ⟨d0, 0, none⟩), x9, .pointer (some ⟨g, 0, none⟩), x11, x12, x13, x14, x15, x16, x17] := by simpa using hb1.set_ 8 (.pointer (some ⟨d0, 0, none⟩))
  refine (hv _).mono ?_
  rintro e W2 ⟨v, rfl, hv2, hv3, hv4, hbe2⟩
  have hb3 := hb2.below hbe2 hb2.lt
  clear hc hf
  have hc := hb3.cell
  have hf := hb3.frozen
  have hb4 : Blk (W2.setCell ⟨a, 9, none⟩ (.pointer (some ⟨v, 0, none⟩))) a 132 #[.int .u32 p.code, .int .i64 p.out, .int .i64 N, .int .i64 p.watch, .int .u32 p.count, .pointer (some ⟨mb, 0, none⟩), .int .u32 mx, .pointer (some ⟨c, 0, none⟩), .pointer (some ⟨d0, 0, none⟩), .pointer (some ⟨v, 0, none⟩), .pointer (some ⟨g, 0, none⟩), x11, x12, x13, x14, x15, x16, x17] := by simpa using hb3.set_ 9 (.pointer (some ⟨v, 0, none⟩))
  have hcA := fun o => (hb4.alloc o).cell
  have hfA := fun o => (hb4.alloc o).frozen
  go_wp2_with fail
  have hsz3 : (W2.setCell ⟨a, 9, none⟩ (.pointer (some ⟨v, 0, none⟩))).heap.size = W2.heap.size := by simp [World.setCell]
  have hmade := own_made (W2.setCell ⟨a, 9, none⟩ (.pointer (some ⟨v, 0, none⟩))) N (by omega)
  rw [hsz3] at hmade
  have hkB : Keep (fun x => x = a) W2 (((((((((W2.setCell ⟨a, 9, none⟩ (.pointer (some ⟨v, 0, none⟩))).alloc (.cells (madeCells #[.int .u8 0] N) 5)).setCell ⟨a, 11, none⟩ (.int .i64 1)).setCell ⟨a, 12, none⟩ (.int .u32 0)).setCell ⟨a, 13, none⟩ (.int .u32 0)).setCell ⟨a, 14, none⟩ (.int .u32 0)).setCell ⟨a, 15, none⟩ (.int .i64 0)).setCell ⟨a, 16, none⟩ (.slice (some ⟨W2.heap.size, 0, none⟩) N N)).setCell ⟨a, 17, none⟩ (.bool false)) := ((((((((((Keep.refl (fun x => x = a) W2).setCell (p := ⟨a, 9, none⟩) (fun _ => rfl) (.pointer (some ⟨v, 0, none⟩))).alloc (.cells (madeCells #[.int .u8 0] N) 5)).setCell (p := ⟨a, 11, none⟩) (fun _ => rfl) (.int .i64 1)).setCell (p := ⟨a, 12, none⟩) (fun _ => rfl) (.int .u32 0)).setCell (p := ⟨a, 13, none⟩) (fun _ => rfl) (.int .u32 0)).setCell (p := ⟨a, 14, none⟩) (fun _ => rfl) (.int .u32 0)).setCell (p := ⟨a, 15, none⟩) (fun _ => rfl) (.int .i64 0)).setCell (p := ⟨a, 16, none⟩) (fun _ => rfl) (.slice (some ⟨W2.heap.size, 0, none⟩) N N)).setCell (p := ⟨a, 17, none⟩) (fun _ => rfl) (.bool false))
  have hkM : Keep (fun x => x = a) ((W2.setCell ⟨a, 9, none⟩ (.pointer (some ⟨v, 0, none⟩))).alloc (.cells (madeCells #[.int .u8 0] N) 5)) (((((((((W2.setCell ⟨a, 9, none⟩ (.pointer (some ⟨v, 0, none⟩))).alloc (.cells (madeCells #[.int .u8 0] N) 5)).setCell ⟨a, 11, none⟩ (.int .i64 1)).setCell ⟨a, 12, none⟩ (.int .u32 0)).setCell ⟨a, 13, none⟩ (.int .u32 0)).setCell ⟨a, 14, none⟩ (.int .u32 0)).setCell ⟨a, 15, none⟩ (.int .i64 0)).setCell ⟨a, 16, none⟩ (.slice (some ⟨W2.heap.size, 0, none⟩) N N)).setCell ⟨a, 17, none⟩ (.bool false)) := ((((((((Keep.refl (fun x => x = a) _).setCell (p := ⟨a, 11, none⟩) (fun _ => rfl) (.int .i64 1)).setCell (p := ⟨a, 12, none⟩) (fun _ => rfl) (.int .u32 0)).setCell (p := ⟨a, 13, none⟩) (fun _ => rfl) (.int .u32 0)).setCell (p := ⟨a, 14, none⟩) (fun _ => rfl) (.int .u32 0)).setCell (p := ⟨a, 15, none⟩) (fun _ => rfl) (.int .i64 0)).setCell (p := ⟨a, 16, none⟩) (fun _ => rfl) (.slice (some ⟨W2.heap.size, 0, none⟩) N N)).setCell (p := ⟨a, 17, none⟩) (fun _ => rfl) (.bool false))
  have hblk : Blk (((((((((W2.setCell ⟨a, 9, none⟩ (.pointer (some ⟨v, 0, none⟩))).alloc (.cells (madeCells #[.int .u8 0] N) 5)).setCell ⟨a, 11, none⟩ (.int .i64 1)).setCell ⟨a, 12, none⟩ (.int .u32 0)).setCell ⟨a, 13, none⟩ (.int .u32 0)).setCell ⟨a, 14, none⟩ (.int .u32 0)).setCell ⟨a, 15, none⟩ (.int .i64 0)).setCell ⟨a, 16, none⟩ (.slice (some ⟨W2.heap.size, 0, none⟩) N N)).setCell ⟨a, 17, none⟩ (.bool false)) a 132 (devCells { p := p, m := M, max := mx, cell := C, log := L, value := List.replicate p.inn.toNat 0 } mb c d0 v g (.slice (some ⟨W2.heap.size, 0, none⟩) N N)) := by
    have := ((((((((hb4.alloc (.cells (madeCells #[.int .u8 0] N) 5)).set_ 11 (.int .i64 1)).set_ 12 (.int .u32 0)).set_ 13 (.int .u32 0)).set_ 14 (.int .u32 0)).set_ 15 (.int .i64 0)).set_ 16 (.slice (some ⟨W2.heap.size, 0, none⟩) N N)).set_ 17 (.bool false))
    simpa [devCells, HN.out] using this
  have hz5 : (((((((((W2.setCell ⟨a, 9, none⟩ (.pointer (some ⟨v, 0, none⟩))).alloc (.cells (madeCells #[.int .u8 0] N) 5)).setCell ⟨a, 11, none⟩ (.int .i64 1)).setCell ⟨a, 12, none⟩ (.int .u32 0)).setCell ⟨a, 13, none⟩ (.int .u32 0)).setCell ⟨a, 14, none⟩ (.int .u32 0)).setCell ⟨a, 15, none⟩ (.int .i64 0)).setCell ⟨a, 16, none⟩ (.slice (some ⟨W2.heap.size, 0, none⟩) N N)).setCell ⟨a, 17, none⟩ (.bool false)).heap.size = W2.heap.size + 1 := by simp [World.setCell]
  generalize (((((((((W2.setCell ⟨a, 9, none⟩ (.pointer (some ⟨v, 0, none⟩))).alloc (.cells (madeCells #[.int .u8 0] N) 5)).setCell ⟨a, 11, none⟩ (.int .i64 1)).setCell ⟨a, 12, none⟩ (.int .u32 0)).setCell ⟨a, 13, none⟩ (.int .u32 0)).setCell ⟨a, 14, none⟩ (.int .u32 0)).setCell ⟨a, 15, none⟩ (.int .i64 0)).setCell ⟨a, 16, none⟩ (.slice (some ⟨W2.heap.size, 0, none⟩) N N)).setCell ⟨a, 17, none⟩ (.bool false)) = W5 at *
  first | go_end0 | refine bodyPost_ret (results_none rfl _ _ _) rfl ?_
  have ha := (hin 0 a hka).2
  have hs1 := hz1.out
  have hs2 := hbe2.size
  simp [World.setCell] at hs2
  have hkA : Keep (fun x => x = a) W1 W5 := (((Keep.refl (fun x => x = a) W1).setCell (p := ⟨a, 8, none⟩) (fun _ => rfl) _).andThen (S' := fun _ => False) (Keep.of_below hbe2) (fun _ _ h => h.elim)).andThen hkB (fun _ _ h => h)
  have hk : Keep (fun x => x = a) w W5 := (Keep.of_below hbe1).andThen hkA (fun _ _ h => h)
  have hd0 := Hd0.out
  have hsz1 : (W1.setCell ⟨a, 8, none⟩ (.pointer (some ⟨d0, 0, none⟩))).heap.size = W1.heap.size := by simp [World.setCell]
  rw [hsz1] at hv2 hv3
  let κ' : Nat → Option Nat := fun x => if x < w.heap.size then κ x else if x < W1.heap.size then some 1 else if x < W2.heap.size then some 2 else if x < W5.heap.size then some 4 else none
  have hold : ∀ t x, Of κ t x → Of κ' t x := fun t x hx => by
    show (if x < w.heap.size then κ x else _) = some t
    rw [if_pos (hin t x hx).2]
    exact hx
  have hnew : ∀ x, ¬ x < w.heap.size → κ' x = if x < W1.heap.size then some 1 else if x < W2.heap.size then some 2 else if x < W5.heap.size then some 4 else none := fun x hx => by
    show (if x < w.heap.size then κ x else _) = _
    rw [if_neg hx]
  have hna : ∀ t x, t ≠ 0 → Of κ t x → ¬ x = a := fun t x ht hx e => (hx.ne ht) (e ▸ hka)
  refine ⟨rfl, ⟨κ', d0, v, .slice (some ⟨W2.heap.size, 0, none⟩) N N, {
    blk := hblk
    dog := Blk.keep hd1 hkA (by omega)
    valve := hv2.keep hkB (fun x hx e => by omega) (fun x hx => by
      show κ' x = some 2
      rw [hnew x (by omega), if_neg (by omega), if_pos (by omega)])
    log := h.log.keep hk (fun x hx => hna 3 x (by decide) hx) (hold 3)
    value := by
      have := own_base (ownsRow_keep hmade hkM (fun x hx e => by simp [Value.ownBlock] at hx; omega)) (Nat.zero_le _)
      simpa [HN.out] using this
    mem := h.mem.keep hk (fun x hx => hna 5 x (by decide) hx) (hold 5)
    cell := Blk.keep h.cell hk (hna 6 _ (by decide) h.kc)
    ka := hold 0 a hka
    kd := by
      show κ' d0 = some 1
      rw [hnew d0 (by omega), if_pos (by omega)]
    kx := fun x hx => by
      simp [Value.ownBlock] at hx
      show κ' x = some 4
      rw [hnew x (by omega), if_neg (by omega), if_neg (by omega), if_pos (by omega)]
    kc := hold 6 c h.kc
    lo := fun x hx => ?_ }, fun x hx => ?_⟩, hk⟩
  · by_cases h1 : x < w.heap.size
    · have := hlo x (by
        have : κ' x = κ x := by show (if x < w.heap.size then κ x else _) = _; rw [if_pos h1]
        rwa [this] at hx)
      omega
    · rw [hnew x h1] at hx
      have hB := (hin 0 a hka).1
      by_cases h5 : x < W5.heap.size
      · omega
      · rw [if_neg (by omega), if_neg (by omega), if_neg h5] at hx
        exact absurd rfl hx
  · by_cases h1 : x < w.heap.size
    · left
      have : κ' x = κ x := by show (if x < w.heap.size then κ x else _) = _; rw [if_pos h1]
      rwa [this] at hx
    · right
      rw [hnew x h1] at hx
      by_cases h5 : x < W5.heap.size
      · exact ⟨by omega, h5⟩
      · rw [if_neg (by omega), if_neg (by omega), if_neg h5] at hx
        exact absurd rfl hx
end Go.Proofs.YtlldgfejcjnpkaaGreat
/- A device's inner steps: trip, alive, leave, down. -/
namespace Go.Proofs.YtlldgfejcjnpkaaGreat
open Go.RowKit
set_option maxHeartbeats 4000000
set_option maxRecDepth 100000

theorem Of.has {κ : Nat → Option Nat} {t x : Nat} (h : Of κ t x) : κ x ≠ none := by rw [show κ x = Option.some t from h]; simp
section
variable {B : Nat} {w w' : World} {a mb c d v g : Nat} {m m' : DevM} {κ : Nat → Option Nat} {val : Value} {F : Nat → Prop}
theorem DevAt.toValve (h : DevAt B w a mb m κ c d v g val) (hI : DevIs B w a mb m F) (hF : ∀ x, κ x ≠ none → F x) {V' : ValveM} {FV : Nat → Prop} (hv : ValveIs w' v V' m.p.out FV) (hk : Keep (Of κ 2) w w') (hFV : ∀ x, FV x → Of κ 2 x ∨ (w.heap.size ≤ x ∧ x < w'.heap.size)) :
    DevTo B w a mb { m with valve := V' } F w' := (h.onValve hv hk hFV).toIs hI (paint_sub hF) (hk.mono (fun x _ hx => hF x hx.has))
theorem DevAt.toLog (h : DevAt B w a mb m κ c d v g val) (hI : DevIs B w a mb m F) (hF : ∀ x, κ x ≠ none → F x) {L' : List Rec} {FL : Nat → Prop} (hl : DiagIs w' g L' FL) (hk : Keep (Of κ 3) w w') (hFL : ∀ x, FL x → Of κ 3 x ∨ (w.heap.size ≤ x ∧ x < w'.heap.size)) :
    DevTo B w a mb { m with log := L' } F w' := (h.onLog hl hk hFL).toIs hI (paint_sub hF) (hk.mono (fun x _ hx => hF x hx.has))
theorem DevAt.toDog (h : DevAt B w a mb m κ c d v g val) (hI : DevIs B w a mb m F) (hF : ∀ x, κ x ≠ none → F x) {s' : Int} (hd : DogIs w' d m.p.watch s') (hk : Keep (fun x => x = d) w w') :
    DevTo B w a mb { m with since := s' } F w' := (h.onDog hd hk).toIs hI (paint_sub hF) (hk.mono (fun x _ hx => hF x (hx ▸ h.kd.has)))
theorem DevAt.toMem (h : DevAt B w a mb m κ c d v g val) (hI : DevIs B w a mb m F) (hF : ∀ x, κ x ≠ none → F x) {M' : MemM} (hm : MemTo w mb M' (Of κ 5) w') :
    DevTo B w a mb { m with m := M' } F w' := (h.onMem hm).toIs hI (paint_sub hF) (hm.keep.mono (fun x _ hx => hF x hx.has))
theorem DevAt.toUpd (h : DevAt B w a mb m κ c d v g val) (hI : DevIs B w a mb m F) (hF : ∀ x, κ x ≠ none → F x) (hk : Keep (fun x => x = a) w w') (hs : w'.heap.size = w.heap.size) (hb : Blk w' a 132 (devCells m' mb c d v g val)) (e1 : m'.p = m.p) (e2 : m'.since = m.since) (e3 : m'.valve = m.valve) (e4 : m'.log = m.log) (e5 : m'.value = m.value) (e6 : m'.m = m.m) (e7 : m'.cell = m.cell) :
    DevTo B w a mb m' F w' := (h.upd hk hs hb e1 e2 e3 e4 e5 e6 e7).toIs hI (fun x hx => .inl (hF x hx)) (hk.mono (fun _ _ hx => hx ▸ hI.Fa))
theorem DevAt.toCell (h : DevAt B w a mb m κ c d v g val) (hI : DevIs B w a mb m F) (hF : ∀ x, κ x ≠ none → F x) {M' : MemM} {C' : CellM} (hm : MemIs w' mb M' (Of κ 5)) (hc : CellIs w' c mb C') (hk : Keep (fun x => Of κ 5 x ∨ x = c) w w') :
    DevTo B w a mb { m with m := M', cell := C' } F w' := (h.onCell hm hc hk).toIs hI (fun x hx => .inl (hF x hx)) (hk.mono (fun x _ hx => hx.elim (fun hx => hF x hx.has) (fun hx => hF x (hx ▸ h.kc.has))))
theorem DevIs.drew (h : DevIs B w a mb m F) : DevIs B w.drew a mb m F := h.keepS (S := fun _ => False) (Keep.refl _ w).drew (fun _ _ h => h)
theorem DevTo.drew (h : DevTo B w a mb m F w') : DevTo B w a mb m F w'.drew := ⟨h.is_.drew, h.keep.drew⟩
theorem keepA {x : Value} {i : Nat} (w : World) : Keep (fun x => x = a) w (w.setCell ⟨a, i, none⟩ x) := (Keep.refl (fun x => x = a) w).setCell (p := ⟨a, i, none⟩) (fun _ => rfl) x
end
theorem devTrip_any (B a mb : Nat) (m : DevM) (F : Nat → Prop) (code : Int) (w : World) (hcode : code ≠ 0) (hI : DevIs B w a mb m F) (hlen : m.log.length < 1073741823) :
    Calls Tryz.prog 77 #[.pointer (some ⟨a, 0, none⟩), .int .i64 code] w fun e w' => e = .returned (.tuple #[]) ∧ DevTo B w a mb (m.trip code) F w' := by
  have hI0 := hI
  obtain ⟨⟨κ, c, d, v, g, val, hH, hF⟩, hlo⟩ := hI
  have hc := hH.blk.cell
  unfold devCells at hc
  have hcod : (code == 0) = false := by simpa using hcode
  cases htr : (m.valve.trip code).2 with
  | false =>
    have e1 : m.trip code = { m with valve := (m.valve.trip code).1 } := by unfold DevM.trip; simp only [htr]; rfl
    rw [e1]
    go_enter Tryz.func77, Tryz.ntmps77
    go_wp2_with fail
    refine (valveTrip_any v m.valve _ (Of κ 2) code w hcode hH.valve).mono ?_
    rintro e w1 ⟨rfl, hv, hk⟩
    rw [htr]
    go_wp2_with fail
    go_end0
    exact ⟨rfl, hH.toValve hI0 hF hv hk (fun x hx => .inl hx)⟩
  | true =>
    have e1 : m.trip code = { m with valve := (m.valve.trip code).1, log := noteM m.log code m.session m.number } := by unfold DevM.trip; simp only [htr]; rfl
    rw [e1]
    go_enter Tryz.func77, Tryz.ntmps77
    go_wp2_with fail
    refine (valveTrip_any v m.valve _ (Of κ 2) code w hcode hH.valve).mono ?_
    rintro e w1 ⟨rfl, hv, hk⟩
    rw [htr]
    have t1 := (hH.toValve hI0 hF hv hk (fun x hx => .inl hx)).drew
    have hI1 := t1.is_
    have h1 := (hH.onValve hv hk (fun x hx => .inl hx)).drew
    have hF1 : ∀ x, paint κ 2 w w1 x ≠ none → grow F w w1.drew x := paint_sub hF
    have hlog := h1.log
    have hb1 := h1.blk
    clear hc
    have hc := hb1.cell
    unfold devCells at hc
    simp only at hc
    have hla : ¬ Of (paint κ 2 w w1) 3 a := h1.ka.ne (by decide)
    go_wp2_with fail
    go_region_held3 (fun w' => w'.cell? ⟨a, 10, none⟩ = some (.pointer (some ⟨g, 0, none⟩)) ∧ w'.cell? ⟨a, 12, none⟩ = some (.int .u32 m.session) ∧ w'.cell? ⟨a, 13, none⟩ = some (.int .u32 m.number)) (exact ⟨(hb1.cell 10).trans rfl, (hb1.cell 12).trans rfl, (hb1.cell 13).trans rfl⟩) (first
      | (go_at_call 56; refine (diagNote_any g m.log _ code m.session m.number _ hcod hlog hlen).mono ?_; rintro e W ⟨rfl, hl2, hk2⟩; replace hb1 := hb1.keep hk2 hla))
    go_wp2_with fail
    go_end0
    have t2 := h1.toLog hI1 hF1 hl2 hk2 (fun x hx => hx)
    exact ⟨rfl, DevTo.trans hI0 t1 t2⟩
theorem devAlive_any (B a mb : Nat) (m : DevM) (F : Nat → Prop) (w : World) (hI : DevIs B w a mb m F) :
    Calls Tryz.prog 188 #[.pointer (some ⟨a, 0, none⟩)] w fun e w' => e = .returned (.tuple #[]) ∧ DevTo B w a mb m.alive F w' := by
  have hI0 := hI
  obtain ⟨⟨κ, c, d, v, g, val, hH, hF⟩, hlo⟩ := hI
  have hb := hH.blk
  have hc := hb.cell
  have hf := hb.frozen
  unfold devCells at hc
  have hbu : Blk (w.setCell ⟨a, 15, none⟩ (.int .i64 0)) a 132 (devCells { m with odd := 0 } mb c d v g val) := by simpa [devCells] using hb.set_ 15 (.int .i64 0)
  have h1 := hH.upd (keepA w) (by simp [World.setCell]) hbu rfl rfl rfl rfl rfl rfl rfl
  have t1 := hH.toUpd hI0 hF (keepA w) (by simp [World.setCell]) hbu rfl rfl rfl rfl rfl rfl rfl
  go_enter Tryz.func188, Tryz.ntmps188
  go_wp2_with fail
  refine (dogFeed_any d _ _ _ h1.dog).mono ?_
  rintro e w2 ⟨rfl, hd2, hW⟩
  have hk2 : Keep (fun x => x = d) _ w2 := hW ▸ (Keep.refl (fun x => x = d) _).setCell (p := ⟨d, 1, none⟩) (fun _ => rfl) _
  have h2 := h1.onDog hd2 hk2
  have t2 := h1.toDog t1.is_ (fun x hx => .inl (hF x hx)) hd2 hk2
  have t12 := DevTo.trans hI0 t1 t2
  clear hW hc hf hd2
  have hc := h2.blk.cell
  unfold devCells at hc
  simp only at hc
  go_wp2_with fail
  refine (valveFresh_any v m.valve _ _ w2 h2.valve).mono ?_
  rintro e w3 ⟨rfl, hv3, hk3, hs3⟩
  have hF2 : ∀ x, paint κ 1 (w.setCell ⟨a, 15, none⟩ (.int .i64 0)) w2 x ≠ none → grow F w w2 x := fun x hx => grow_grow (F := F) (by simp [World.setCell]) hk2.size x (paint_sub (fun y hy => .inl (hF y hy)) x hx)
  have t3 := h2.toValve t12.is_ hF2 hv3 hk3 (fun x hx => .inl hx)
  clear hs3
  go_wp2_with fail
  go_end0
  exact ⟨rfl, DevTo.trans hI0 t12 t3⟩
theorem devLeave_any (B a mb : Nat) (m : DevM) (F : Nat → Prop) (s : Int) (w : World) (hI : DevIs B w a mb m F) :
    Calls Tryz.prog 210 #[.pointer (some ⟨a, 0, none⟩), .int .i64 s] w fun e w' => e = .returned (.tuple #[]) ∧ DevTo B w a mb (m.leave s) F w' := by
  have hI0 := hI
  obtain ⟨⟨κ, c, d, v, g, val, hH, hF⟩, hlo⟩ := hI
  have hc := hH.blk.cell
  unfold devCells at hc
  go_enter Tryz.func210, Tryz.ntmps210
  go_wp2_with fail
  refine (valveRun_any v m.valve _ _ false w hH.valve).mono ?_
  rintro e w1 ⟨rfl, hv1, hk1, hs1⟩
  have t1 := hH.toValve hI0 hF hv1 hk1 (fun x hx => .inl hx)
  have h1 := hH.onValve hv1 hk1 (fun x hx => .inl hx)
  have hb1 := h1.blk
  clear hc hs1
  have hc := hb1.cell
  have hf := hb1.frozen
  unfold devCells at hc
  simp only at hc
  go_wp2_with fail
  go_end0
  have t2 : DevTo B w1 a mb (m.leave s) (grow F w w1) (((((w1.setCell ⟨a, 11, none⟩ (.int .i64 s)).setCell ⟨a, 12, none⟩ (.int .u32 0)).setCell ⟨a, 13, none⟩ (.int .u32 0)).setCell ⟨a, 14, none⟩ (.int .u32 0)).setCell ⟨a, 15, none⟩ (.int .i64 0)) :=
    h1.toUpd t1.is_ (paint_sub hF) (((((Keep.refl (fun x => x = a) w1).setCell (p := ⟨a, 11, none⟩) (fun _ => rfl) _).setCell (p := ⟨a, 12, none⟩) (fun _ => rfl) _).setCell (p := ⟨a, 13, none⟩) (fun _ => rfl) _).setCell (p := ⟨a, 14, none⟩) (fun _ => rfl) _ |>.setCell (p := ⟨a, 15, none⟩) (fun _ => rfl) _) (by simp [World.setCell])
      (by simpa [devCells, DevM.leave] using ((((hb1.set_ 11 (.int .i64 s)).set_ 12 (.int .u32 0)).set_ 13 (.int .u32 0)).set_ 14 (.int .u32 0)).set_ 15 (.int .i64 0)) rfl rfl rfl rfl rfl rfl rfl
  exact ⟨rfl, DevTo.trans hI0 t1 t2⟩
/-- A device whose life is laid anew. -/
theorem devFreshTo_any (B a mb : Nat) (m : DevM) (F : Nat → Prop) (w : World) (hI : DevIs B w a mb m F) (hp : m.p.lawful = true) :
    Calls Tryz.prog 49 #[.pointer (some ⟨a, 0, none⟩)] w fun e w' => e = .returned (.tuple #[]) ∧ DevTo B w a mb (m.life 1) F w' := by
  have hI0 := hI
  obtain ⟨⟨κ, c, d, v, g, val, hH, hF⟩, hlo⟩ := hI
  refine (devFresh_any B a mb m.p m.max m.log m.m m.cell κ c g _ _ _ _ _ _ _ _ _ w hp ⟨hH.blk, hH.log, hH.mem, hH.cell, hH.ka, hH.kc, hH.lo⟩).mono ?_
  rintro e w' ⟨rfl, ⟨κ', d', v', val', h', hF'⟩, hk⟩
  exact ⟨rfl, h'.toIs hI0 (fun x hx => (hF' x hx).imp (hF x) id) (hk.mono (fun x _ hx => hx ▸ hI0.Fa))⟩
theorem devDown_any (B a mb : Nat) (m : DevM) (F : Nat → Prop) (w : World) (hI : DevIs B w a mb m F) (hp : m.p.lawful = true) :
    Calls Tryz.prog 121 #[.pointer (some ⟨a, 0, none⟩)] w fun e w' => e = .returned (.tuple #[]) ∧ DevTo B w a mb (m.life 6) F w' := by
  go_enter Tryz.func121, Tryz.ntmps121
  go_wp2_with fail
  refine (devFreshTo_any B a mb m F w hI hp).mono ?_
  rintro e w1 ⟨rfl, t1⟩
  have hI1 := t1.is_
  obtain ⟨⟨κ, c, d, v, g, val, h1, hF⟩, hlo⟩ := t1.is_
  have hb1 := h1.blk
  have hc := hb1.cell
  have hf := hb1.frozen
  unfold devCells at hc
  go_wp2_with fail
  go_end0
  have t2 : DevTo B w1 a mb (m.life 6) (grow F w w1) (w1.setCell ⟨a, 11, none⟩ (.int .i64 6)) :=
    h1.toUpd hI1 hF (keepA w1) (by simp [World.setCell]) (by simpa [devCells, DevM.life] using hb1.set_ 11 (.int .i64 6)) rfl rfl rfl rfl rfl rfl rfl
  exact ⟨rfl, DevTo.trans hI t1 t2⟩
end Go.Proofs.YtlldgfejcjnpkaaGreat
