/- The base of the laws, part 14: contracts and plain lemmas, no statement. -/
import Derived.Test.YtbkkfkbgcklkgaaGreatBase13
/- The reference's cell by its contracts: Open, Next. -/
namespace Go.Proofs.YtbkkfkbgcklkgaaGreat
open Go.RowKit
set_option maxHeartbeats 4000000
set_option maxRecDepth 100000

/-- Slots put right, from slot i on. -/
def openGo (m : MemM) : Nat → MemM × Int
  | 0 => if (m.mend 0).2 ≠ 0 then m.mend 0 else (m.mend 0).1.mend 1
  | 1 => m.mend 1
  | _ => (m, 0)
theorem openM_go (m : MemM) (mx : Int) (h0 : mx ≠ 0) (h1 : ¬ m.b.length < 10) (ho : m.off = false) : openM m mx = if (openGo m 0).2 ≠ 0 then ((openGo m 0).1, none, (openGo m 0).2) else ((openGo m 0).1, some ⟨mx, m.top, false⟩, 0) := by
  unfold openM
  rw [if_neg (by simp [h0]; omega), ho, if_neg (by simp)]
  simp only [openGo]
  by_cases h2 : (m.mend 0).2 = 0
  · simp [h2]
  · simp [h2]
theorem openGo_step (m : MemM) (i : Nat) (hi : i < 2) : openGo m i = if (m.mend i).2 ≠ 0 then m.mend i else openGo (m.mend i).1 (i + 1) := by
  have hc : i = 0 ∨ i = 1 := by omega
  rcases hc with rfl | rfl
  · rfl
  · simp only [openGo]
    by_cases h2 : (m.mend 1).2 = 0
    · simp only [h2, ne_eq, not_true_eq_false, if_false]; rw [← h2]
    · simp [h2]
theorem rOpen_any (mb : Nat) (m : MemM) (F : Nat → Prop) (mx : Int) (w : World) (h : RMemIs w mb m F) (hF : ∀ x, F x → x < w.heap.size) :
    Calls Tryz.prog 47 #[.pointer (some ⟨mb, 0, none⟩), .int .u32 mx] w fun e w' => (RMemIs w' mb (openM m mx).1 F ∧ Keep F w w') ∧
      match (openM m mx).2.1 with
      | some k => ∃ c, e = .returned (.tuple #[.pointer (some ⟨c, 0, none⟩), .int .i64 0]) ∧ (openM m mx).2.2 = 0 ∧ RCellIs w' c mb k ∧ w.heap.size ≤ c ∧ c < w'.heap.size
      | none => e = .returned (.tuple #[.pointer none, .int .i64 (openM m mx).2.2]) := by
  have hI := h
  by_cases h0 : mx = 0
  · subst h0
    have e1 : openM m 0 = (m, none, 2) := by unfold openM; rw [if_pos (.inl rfl)]
    rw [e1]
    go_enter Tryz.func47, Tryz.ntmps47
    go_wp2_with fail
    refine bodyPost_ret (v := .tuple #[.pointer none, .int .i64 2]) (by simp [results, Tryz.results47, go_sem]) rfl ⟨⟨h, Keep.refl _ _⟩, rfl⟩
  have g0 : (mx == 0) = false := by simpa using h0
  obtain ⟨row, wr, h⟩ := h
  obtain ⟨A, c, rfl⟩ := own_slice h.bytes
  have hc := h.blk.cell
  unfold rmemCells at hc
  by_cases h1 : m.b.length < 10
  · have e1 : openM m mx = (m, none, 2) := by unfold openM; rw [if_pos (.inr h1)]
    rw [e1]
    have g1 : ((m.b.length : Int) < 10) := by omega
    go_enter Tryz.func47, Tryz.ntmps47
    go_wp2_with fail
    refine bodyPost_ret (v := .tuple #[.pointer none, .int .i64 2]) (by simp [results, Tryz.results47, go_sem]) rfl ⟨⟨hI, Keep.refl _ _⟩, rfl⟩
  have g1 : ¬ ((m.b.length : Int) < 10) := by omega
  cases ho : m.off with
  | true =>
    have e1 : openM m mx = (m, none, 70) := by unfold openM; rw [if_neg (by simp [h0]; omega), if_pos ho]
    rw [e1]
    rw [ho] at hc
    go_enter Tryz.func47, Tryz.ntmps47
    go_wp2_with fail
    refine bodyPost_ret (v := .tuple #[.pointer none, .int .i64 70]) (by simp [results, Tryz.results47, go_sem]) rfl ⟨⟨hI, Keep.refl _ _⟩, rfl⟩
  | false =>
  rw [openM_go m mx h0 h1 ho]
  rw [ho] at hc
  have H1 := Lib.hid h1
  have HF := Lib.hid hF
  obtain ⟨q, Hq⟩ : ∃ q, Hid (q = openGo m 0) := ⟨_, Lib.hid rfl⟩
  obtain ⟨tp, Htp⟩ : ∃ q, Hid (q = m.top) := ⟨_, Lib.hid rfl⟩
  have hval := fun w h => rValue_any mb m F w h (by omega)
  rw [← Htp.out] at hval ⊢
  rw [← Hq.out]
  clear h hF h1
  go_enter Tryz.func47, Tryz.ntmps47
  go_wp2_with fail
  refine (hval _ hI).mono ?_
  rintro e w1 ⟨rfl, hb1⟩
  have hI1 := hI.below hb1
  have hk1 : Keep F w w1 := Keep.of_below hb1
  clear hc hval hI
  go_wp2_with fail
  go_loopw [7] (fun v7 wl => ∃ (i : Nat) (mi : MemM), i ≤ 2 ∧ v7 = .int .i64 i ∧ RMemIs wl mb mi F ∧ mi.b.length = m.b.length ∧ Hid (q = openGo mi i) ∧ Keep F w wl) (fun v7 _ => 2 - (intOf v7).toNat)
  case atStart => exact ⟨0, m, by omega, rfl, hI1, rfl, Hq, hk1⟩
  case round =>
    clear hI1 hk1 hb1
    obtain ⟨i, mi, hi, rfl, ti, hli, Hqi, ki⟩ := hrel
    have hb10 : 10 ≤ mi.b.length := by have := H1.out; omega
    have hlt : ∀ x, F x → x < wr.heap.size := fun x hx => by have := HF.out x hx; have := ki.size; omega
    have hcase : i = 0 ∨ i = 1 ∨ i = 2 := by omega
    rcases hcase with rfl | rfl | rfl
    · have Hq1 : Hid (q = if (mi.mend 0).2 ≠ 0 then mi.mend 0 else openGo (mi.mend 0).1 1) := Lib.hid (by rw [Hqi.out]; exact openGo_step mi 0 (by omega))
      clear Hqi
      have hml := mend_len mi 0
      have hho := fun w h => rHolds_any mb mi F 1 1 w rfl h hb10 (by omega)
      have hhk := fun w h => rHolds_any mb mi F 0 0 w rfl h hb10 (by omega)
      cases hk0 : mi.holds 0 with
      | true =>
        have e3 : mi.mend 0 = (mi, 0) := by unfold MemM.mend; simp [hk0]
        have Hq2 : Hid (q = openGo mi 1) := Lib.hid (by rw [Hq1.out, e3]; simp)
        clear Hq1 hml e3
        rw [hk0] at hhk
        go_wp2_with fail
        refine (hho _ ti).mono ?_
        rintro e w2 ⟨rfl, rfl⟩
        generalize mi.holds (1) = ot at *
        go_wp2_with (refine (hhk _ ti).mono ?_; rintro e w3 ⟨rfl, rfl⟩)
        go_round
        case rel => exact ⟨1, mi, by omega, by go_num, ti, hli, Hq2, ki⟩
        case measure => simp [intOf]
      | false =>
        rw [hk0] at hhk
        cases ho0 : mi.holds 1 with
        | true =>
          have e3 : mi.mend 0 = mi.writeSlot 0 (mi.word 1) := by unfold MemM.mend; rw [if_pos (by simp [hk0, ho0])]
          rw [e3] at Hq1 hml
          rw [ho0] at hho
          have hwd := fun w h => rWord_any mb mi F 1 1 w rfl h hb10 (by omega)
          have hwr := fun w h hF => rWrite_any mb mi F 0 0 (mi.word 1) w rfl h hF hb10 (by omega) (mi.word_range 1)
          generalize mi.word 1 = x at *
          generalize mi.writeSlot 0 x = r at *
          obtain ⟨mr, er⟩ := r
          simp only at hwr Hq1 hml
          clear e3
          go_wp2_with fail
          refine (hho _ ti).mono ?_
          rintro e w2 ⟨rfl, rfl⟩
          go_wp2_with fail
          refine (hhk _ ti).mono ?_
          rintro e w3 ⟨rfl, rfl⟩
          go_wp2_with fail
          refine (hwd _ ti).mono ?_
          rintro e w4 ⟨rfl, n4, rfl⟩
          go_wp2_with fail
          refine (hwr _ (ti.drewN n4) hlt).mono ?_
          rintro e w5 ⟨rfl, t5, k5⟩
          have kk5 := (ki.drewN n4).andThen k5 (fun _ _ h => h)
          by_cases he : er = 0
          · subst he
            have Hq4 : Hid (q = openGo mr 1) := Lib.hid (by rw [Hq1.out]; simp)
            clear Hq1 hho hhk hwd hwr
            go_wp2_with fail
            go_round
            case rel => exact ⟨1, mr, by omega, by go_num, t5, by omega, Hq4, kk5⟩
            case measure => simp [intOf]
          · have Hq4 : q = (mr, er) := by rw [Hq1.out, if_pos he]
            subst Hq4
            have g2 : (er != 0) = true := by simpa using he
            clear Hq1 hho hhk hwd hwr
            go_wp2_with fail
            refine bodyPost_ret (v := .tuple #[.pointer none, .int .i64 er]) (by simp [results, Tryz.results47, go_sem]) rfl ?_
            exact ⟨⟨t5, kk5⟩, rfl⟩
        | false =>
          rw [ho0] at hho
          obtain ⟨row2, wr2, h2⟩ := id ti
          obtain ⟨A2, c2, rfl⟩ := own_slice h2.bytes
          have hcm := h2.blk.cell
          unfold rmemCells at hcm
          have hlen2 := h2.len
          obtain ⟨g, rfl, hcell⟩ := own_cell1 h2.bytes (by omega)
          have hv := hcell (0) (by omega)
          have hgd : mi.b.getD (5 * 0) 0 = mi.b[0]'(by omega) := by simp [List.getD_eq_getElem?_getD]; rw [List.getElem?_eq_getElem (by omega)]; rfl
          have e4 : mi.mend 0 = if mi.b.getD (5 * 0) 0 != 0 then mi.write (5 * 0) 0 else (mi, 0) := by unfold MemM.mend; rw [if_neg (by simp [ho0])]; simp [hk0]
          rw [hgd] at e4
          have hbn : ((mi.b[0]'(by omega)).toNat : Int) = 0 ↔ mi.b[0]'(by omega) = 0 := by
            constructor
            · intro h; exact UInt8.toNat.inj (by simpa using h)
            · intro h; rw [h]; rfl
          rw [e4] at Hq1 hml
          have hwr := fun W hW => rmemWrite_at mb mi F (5 * 0) 0 0 0 W (by omega) rfl hW (by omega)
          clear hcell hgd e4 h2
          have hlb : (10 : Int) ≤ (mi.b.length : Int) := by omega
          generalize mi.b[0]'(by omega) = y at *
          by_cases hy : y = 0
          · have gy : (y.toNat : Int) = 0 := hbn.mpr hy
            have Hq2 : Hid (q = openGo mi 1) := Lib.hid (by rw [Hq1.out]; simp [hy])
            rw [gy] at hv
            clear Hq1 hml hwr hbn
            go_wp2_with fail
            refine (hho _ ti).mono ?_
            rintro e w2 ⟨rfl, rfl⟩
            go_wp2_with fail
            refine (hhk _ ti).mono ?_
            rintro e w3 ⟨rfl, rfl⟩
            go_wp2_with fail
            refine (hhk _ ti).mono ?_
            rintro e w4 ⟨rfl, rfl⟩
            go_wp2_with fail
            go_round
            case rel => exact ⟨1, mi, by omega, by go_num, ti, hli, Hq2, ki⟩
            case measure => simp [intOf]
          · have gy : ¬ (y.toNat : Int) = 0 := fun h => hy (hbn.mp h)
            have gy2 : ((y.toNat : Int) != 0) = true := by simpa using gy
            have hyb : (y != 0) = true := by simpa using hy
            rw [if_pos hyb] at Hq1 hml
            generalize mi.write (5 * 0) 0 = r at *
            obtain ⟨mr, er⟩ := r
            simp only at hwr Hq1 hml
            generalize (y.toNat : Int) = yy at *
            clear hbn hy hyb
            go_wp2_with fail
            refine (hho _ ti).mono ?_
            rintro e w2 ⟨rfl, rfl⟩
            go_wp2_with fail
            refine (hhk _ ti).mono ?_
            rintro e w3 ⟨rfl, rfl⟩
            go_wp2_with fail
            refine (hhk _ ti).mono ?_
            rintro e w4 ⟨rfl, rfl⟩
            go_wp2_with fail
            refine (hwr _ ti).mono ?_
            rintro e w5 ⟨rfl, t5, k5, z5⟩
            have kk5 := ki.andThen k5 (fun _ _ h => h)
            clear z5 hcm hv
            by_cases he : er = 0
            · subst he
              have Hq4 : Hid (q = openGo mr 1) := Lib.hid (by rw [Hq1.out]; simp)
              clear Hq1 hho hhk hwr
              go_wp2_with fail
              go_round
              case rel => exact ⟨1, mr, by omega, by go_num, t5, by omega, Hq4, kk5⟩
              case measure => simp [intOf]
            · have Hq4 : q = (mr, er) := by rw [Hq1.out, if_pos he]
              subst Hq4
              have g2 : (er != 0) = true := by simpa using he
              clear Hq1 hho hhk hwr
              go_wp2_with fail
              refine bodyPost_ret (v := .tuple #[.pointer none, .int .i64 er]) (by simp [results, Tryz.results47, go_sem]) rfl ?_
              exact ⟨⟨t5, kk5⟩, rfl⟩
    · have Hq1 : Hid (q = if (mi.mend 1).2 ≠ 0 then mi.mend 1 else openGo (mi.mend 1).1 2) := Lib.hid (by rw [Hqi.out]; exact openGo_step mi 1 (by omega))
      clear Hqi
      have hml := mend_len mi 1
      have hho := fun w h => rHolds_any mb mi F 0 0 w rfl h hb10 (by omega)
      have hhk := fun w h => rHolds_any mb mi F 1 1 w rfl h hb10 (by omega)
      cases hk0 : mi.holds 1 with
      | true =>
        have e3 : mi.mend 1 = (mi, 0) := by unfold MemM.mend; simp [hk0]
        have Hq2 : Hid (q = openGo mi 2) := Lib.hid (by rw [Hq1.out, e3]; simp)
        clear Hq1 hml e3
        rw [hk0] at hhk
        go_wp2_with fail
        refine (hho _ ti).mono ?_
        rintro e w2 ⟨rfl, rfl⟩
        generalize mi.holds (0) = ot at *
        go_wp2_with (refine (hhk _ ti).mono ?_; rintro e w3 ⟨rfl, rfl⟩)
        go_round
        case rel => exact ⟨2, mi, by omega, by go_num, ti, hli, Hq2, ki⟩
        case measure => simp [intOf]
      | false =>
        rw [hk0] at hhk
        cases ho0 : mi.holds 0 with
        | true =>
          have e3 : mi.mend 1 = mi.writeSlot 1 (mi.word 0) := by unfold MemM.mend; rw [if_pos (by simp [hk0, ho0])]
          rw [e3] at Hq1 hml
          rw [ho0] at hho
          have hwd := fun w h => rWord_any mb mi F 0 0 w rfl h hb10 (by omega)
          have hwr := fun w h hF => rWrite_any mb mi F 1 1 (mi.word 0) w rfl h hF hb10 (by omega) (mi.word_range 0)
          generalize mi.word 0 = x at *
          generalize mi.writeSlot 1 x = r at *
          obtain ⟨mr, er⟩ := r
          simp only at hwr Hq1 hml
          clear e3
          go_wp2_with fail
          refine (hho _ ti).mono ?_
          rintro e w2 ⟨rfl, rfl⟩
          go_wp2_with fail
          refine (hhk _ ti).mono ?_
          rintro e w3 ⟨rfl, rfl⟩
          go_wp2_with fail
          refine (hwd _ ti).mono ?_
          rintro e w4 ⟨rfl, n4, rfl⟩
          go_wp2_with fail
          refine (hwr _ (ti.drewN n4) hlt).mono ?_
          rintro e w5 ⟨rfl, t5, k5⟩
          have kk5 := (ki.drewN n4).andThen k5 (fun _ _ h => h)
          by_cases he : er = 0
          · subst he
            have Hq4 : Hid (q = openGo mr 2) := Lib.hid (by rw [Hq1.out]; simp)
            clear Hq1 hho hhk hwd hwr
            go_wp2_with fail
            go_round
            case rel => exact ⟨2, mr, by omega, by go_num, t5, by omega, Hq4, kk5⟩
            case measure => simp [intOf]
          · have Hq4 : q = (mr, er) := by rw [Hq1.out, if_pos he]
            subst Hq4
            have g2 : (er != 0) = true := by simpa using he
            clear Hq1 hho hhk hwd hwr
            go_wp2_with fail
            refine bodyPost_ret (v := .tuple #[.pointer none, .int .i64 er]) (by simp [results, Tryz.results47, go_sem]) rfl ?_
            exact ⟨⟨t5, kk5⟩, rfl⟩
        | false =>
          rw [ho0] at hho
          obtain ⟨row2, wr2, h2⟩ := id ti
          obtain ⟨A2, c2, rfl⟩ := own_slice h2.bytes
          have hcm := h2.blk.cell
          unfold rmemCells at hcm
          have hlen2 := h2.len
          obtain ⟨g, rfl, hcell⟩ := own_cell1 h2.bytes (by omega)
          have hv := hcell (5) (by omega)
          have hgd : mi.b.getD (5 * 1) 0 = mi.b[5]'(by omega) := by simp [List.getD_eq_getElem?_getD]; rw [List.getElem?_eq_getElem (by omega)]; rfl
          have e4 : mi.mend 1 = if mi.b.getD (5 * 1) 0 != 0 then mi.write (5 * 1) 0 else (mi, 0) := by unfold MemM.mend; rw [if_neg (by simp [ho0])]; simp [hk0]
          rw [hgd] at e4
          have hbn : ((mi.b[5]'(by omega)).toNat : Int) = 0 ↔ mi.b[5]'(by omega) = 0 := by
            constructor
            · intro h; exact UInt8.toNat.inj (by simpa using h)
            · intro h; rw [h]; rfl
          rw [e4] at Hq1 hml
          have hwr := fun W hW => rmemWrite_at mb mi F (5 * 1) 0 5 0 W (by omega) rfl hW (by omega)
          clear hcell hgd e4 h2
          have hlb : (10 : Int) ≤ (mi.b.length : Int) := by omega
          generalize mi.b[5]'(by omega) = y at *
          by_cases hy : y = 0
          · have gy : (y.toNat : Int) = 0 := hbn.mpr hy
            have Hq2 : Hid (q = openGo mi 2) := Lib.hid (by rw [Hq1.out]; simp [hy])
            rw [gy] at hv
            clear Hq1 hml hwr hbn
            go_wp2_with fail
            refine (hho _ ti).mono ?_
            rintro e w2 ⟨rfl, rfl⟩
            go_wp2_with fail
            refine (hhk _ ti).mono ?_
            rintro e w3 ⟨rfl, rfl⟩
            go_wp2_with fail
            refine (hhk _ ti).mono ?_
            rintro e w4 ⟨rfl, rfl⟩
            go_wp2_with fail
            go_round
            case rel => exact ⟨2, mi, by omega, by go_num, ti, hli, Hq2, ki⟩
            case measure => simp [intOf]
          · have gy : ¬ (y.toNat : Int) = 0 := fun h => hy (hbn.mp h)
            have gy2 : ((y.toNat : Int) != 0) = true := by simpa using gy
            have hyb : (y != 0) = true := by simpa using hy
            rw [if_pos hyb] at Hq1 hml
            generalize mi.write (5 * 1) 0 = r at *
            obtain ⟨mr, er⟩ := r
            simp only at hwr Hq1 hml
            generalize (y.toNat : Int) = yy at *
            clear hbn hy hyb
            go_wp2_with fail
            refine (hho _ ti).mono ?_
            rintro e w2 ⟨rfl, rfl⟩
            go_wp2_with fail
            refine (hhk _ ti).mono ?_
            rintro e w3 ⟨rfl, rfl⟩
            go_wp2_with fail
            refine (hhk _ ti).mono ?_
            rintro e w4 ⟨rfl, rfl⟩
            go_wp2_with fail
            refine (hwr _ ti).mono ?_
            rintro e w5 ⟨rfl, t5, k5, z5⟩
            have kk5 := ki.andThen k5 (fun _ _ h => h)
            clear z5 hcm hv
            by_cases he : er = 0
            · subst he
              have Hq4 : Hid (q = openGo mr 2) := Lib.hid (by rw [Hq1.out]; simp)
              clear Hq1 hho hhk hwr
              go_wp2_with fail
              go_round
              case rel => exact ⟨2, mr, by omega, by go_num, t5, by omega, Hq4, kk5⟩
              case measure => simp [intOf]
            · have Hq4 : q = (mr, er) := by rw [Hq1.out, if_pos he]
              subst Hq4
              have g2 : (er != 0) = true := by simpa using he
              clear Hq1 hho hhk hwr
              go_wp2_with fail
              refine bodyPost_ret (v := .tuple #[.pointer none, .int .i64 er]) (by simp [results, Tryz.results47, go_sem]) rfl ?_
              exact ⟨⟨t5, kk5⟩, rfl⟩
    · have e3 : q = (mi, 0) := Hqi.out
      subst e3
      go_wp2_with fail
      have hz := ki.size
      refine bodyPost_ret (v := .tuple #[.pointer (some ⟨wr.heap.size, 0, none⟩), .int .i64 0]) (by simp [results, Tryz.results47, go_sem]) rfl ⟨⟨ti.below ((Below.refl _ _).alloc (Nat.le_refl _) _), ki.alloc _⟩, ?_⟩
      exact ⟨wr.heap.size, rfl, Blk.new wr _ _, hz, by simp⟩
theorem rNext_any (c mb : Nat) (k : CellM) (m : MemM) (F : Nat → Prop) (w : World) (h : RMemIs w mb m F) (hC : RCellIs w c mb k) (hF : ∀ x, F x → x < w.heap.size) (hcF : ¬ F c) (hb : 10 ≤ m.b.length) (hv : 0 ≤ k.value ∧ k.max < 4294967296) :
    Calls Tryz.prog 145 #[.pointer (some ⟨c, 0, none⟩)] w fun e w' => e = .returned (.tuple #[.int .u32 (k.next m).2.2.1, .int .i64 (k.next m).2.2.2]) ∧ RMemIs w' mb (k.next m).2.1 F ∧ RCellIs w' c mb (k.next m).1 ∧ Keep (fun x => F x ∨ x = c) w w' := by
  have hc := Blk.cell hC
  have hI := h
  obtain ⟨row, wr, h⟩ := h
  have hmc := h.blk.cell
  unfold rmemCells at hmc
  have hh0 := fun w h => rHolds_any mb m F 0 0 w rfl h hb (by omega)
  have hh1 := fun w h => rHolds_any mb m F 1 1 w rfl h hb (by omega)
  have hw0 := fun w h => rWord_any mb m F 0 0 w rfl h hb (by omega)
  have hw1 := fun w h => rWord_any mb m F 1 1 w rfl h hb (by omega)
  by_cases h0 : (k.dead || m.off) = true
  · have e1 : k.next m = (k, m, 0, 70) := by unfold CellM.next; rw [if_pos h0]
    rw [e1]
    cases hd : k.dead with
    | true =>
      rw [hd] at hc
      go_enter Tryz.func145, Tryz.ntmps145
      go_wp2_with fail
      refine bodyPost_ret (v := .tuple #[.int .u32 0, .int .i64 70]) (by simp [results, Tryz.results145, go_sem]) rfl ⟨rfl, hI, hC, Keep.refl _ _⟩
    | false =>
      have ho : m.off = true := by rw [hd] at h0; simpa using h0
      rw [hd] at hc
      rw [ho] at hmc
      go_enter Tryz.func145, Tryz.ntmps145
      go_wp2_with fail
      refine bodyPost_ret (v := .tuple #[.int .u32 0, .int .i64 70]) (by simp [results, Tryz.results145, go_sem]) rfl ⟨rfl, hI, hC, Keep.refl _ _⟩
  · obtain ⟨hd, ho⟩ : k.dead = false ∧ m.off = false := by
      cases hd : k.dead <;> cases ho : m.off <;> simp_all
    rw [hd] at hc
    rw [ho] at hmc
    have n0 : 0 ≤ k.value := hv.1
    by_cases h1 : k.max ≤ k.value
    · have e1 : k.next m = (k, m, 0, 80) := by unfold CellM.next; rw [if_neg h0, if_pos h1]
      rw [e1]
      go_enter Tryz.func145, Tryz.ntmps145
      go_wp2_with fail
      go_big_quiet (fail)
      go_wp2_with fail
      refine bodyPost_ret (v := .tuple #[.int .u32 0, .int .i64 80]) (by simp [results, Tryz.results145, go_sem]) rfl ⟨rfl, hI.drewN _, Blk.drewN hC _, (Keep.refl _ _).drewN _⟩
    · obtain ⟨s, Hs⟩ : ∃ s : Nat, Hid (s = if m.holds 0 && (!m.holds 1 || decide (m.word 1 < m.word 0)) then 1 else 0) := ⟨_, Lib.hid rfl⟩
      have hs2 : s < 2 := by rw [Hs.out]; split <;> omega
      have hwr : IntKind.u32.wrap (k.value + 1) = k.value + 1 := IntWalk.u32_in _ (by omega)
      obtain ⟨q, Hq⟩ : ∃ q, Hid (q = k.next m) := ⟨_, Lib.hid rfl⟩
      have Hq1 : Hid (q = if (m.writeSlot s (k.value + 1)).2 ≠ 0 then ({ k with dead := true }, (m.writeSlot s (k.value + 1)).1, 0, 70) else ({ k with value := k.value + 1 }, (m.writeSlot s (k.value + 1)).1, k.value + 1, 0)) := Lib.hid (by
        rw [Hq.out]; unfold CellM.next; rw [if_neg h0, if_neg h1, ← Hs.out])
      have hw := fun w h hF => rWrite_any mb m F s (s : Int) (k.value + 1) w rfl h hF hb hs2 (by omega)
      rw [← Hq.out]
      generalize m.writeSlot s (k.value + 1) = r at *
      obtain ⟨mr, er⟩ := r
      simp only at hw
      have Hq2 : Hid (q = if er ≠ 0 then ({ k with dead := true }, mr, 0, 70) else ({ k with value := k.value + 1 }, mr, k.value + 1, 0)) := Lib.hid Hq1.out
      clear Hq Hq1
      generalize m.word 0 = y0 at *
      generalize m.word 1 = y1 at *
      have ge : decide (k.max ≤ k.value) = false := by simpa using h1
      go_enter Tryz.func145, Tryz.ntmps145
      go_wp2_with fail
      go_big_quiet (fail)
      have hIq := hI.drewN nq
      have hCq : RCellIs (w.drewN nq) c mb k := Blk.drewN hC nq
      have hFq : ∀ x, F x → x < (w.drewN nq).heap.size := hF
      have hk1 := (Keep.refl (fun x => F x ∨ x = c) w).drewN nq
      generalize w.drewN nq = W1 at *
      clear hc hmc h hI hC hF
      have hc := Blk.cell hCq
      rw [hd] at hc
      have q0 : ∀ n, Calls Tryz.prog 89 #[.pointer (some ⟨mb, 0, none⟩), .int .i64 0] (W1.drewN n) fun e w' => e = .returned (.bool (m.holds 0)) ∧ w' = W1.drewN n := fun n => hh0 _ (hIq.drewN n)
      have q1 : ∀ n, Calls Tryz.prog 89 #[.pointer (some ⟨mb, 0, none⟩), .int .i64 1] (W1.drewN n) fun e w' => e = .returned (.bool (m.holds 1)) ∧ w' = W1.drewN n := fun n => hh1 _ (hIq.drewN n)
      have q2 : ∀ n, Calls Tryz.prog 91 #[.pointer (some ⟨mb, 0, none⟩), .int .i64 0] (W1.drewN n) fun e w' => e = .returned (.int .u32 y0) ∧ ∃ q, w' = (W1.drewN n).drewN q := fun n => hw0 _ (hIq.drewN n)
      have q3 : ∀ n, Calls Tryz.prog 91 #[.pointer (some ⟨mb, 0, none⟩), .int .i64 1] (W1.drewN n) fun e w' => e = .returned (.int .u32 y1) ∧ ∃ q, w' = (W1.drewN n).drewN q := fun n => hw1 _ (hIq.drewN n)
      clear hh0 hh1 hw0 hw1
      go_upto_region 6 with fail
      go_cut [53] (fun v53 wc => v53 = .bool (m.holds 0 && (!m.holds 1 || decide (y1 < y0))) ∧ ∃ n, wc = W1.drewN n)
      case first =>
        cases g0 : m.holds 0
        · rw [g0] at q0
          go_big_quiet ((go_at_call 89; exact Calls.quiet_of_same (q0 _)))
          go_wp2_with fail
          go_meet
          exact ⟨by rw [g0]; rfl, _, rfl⟩
        · rw [g0] at q0
          cases g1 : m.holds 1
          · rw [g1] at q1
            go_big_quiet ((go_at_call 89; (with_reducible first | exact Calls.quiet_of_same (q0 _) | exact Calls.quiet_of_same (q1 _))))
            go_wp2_with fail
            go_meet
            exact ⟨by rw [g0, g1]; rfl, _, rfl⟩
          · rw [g1] at q1
            go_big_quiet (first | (go_at_call 89; (with_reducible first | exact Calls.quiet_of_same (q0 _) | exact Calls.quiet_of_same (q1 _))) | (go_at_call 91; (with_reducible first | exact Calls.quiet_of (q2 _) | exact Calls.quiet_of (q3 _))))
            go_wp2_with fail
            go_meet
            exact ⟨by rw [g0, g1]; rfl, _, rfl⟩
      case rest =>
        obtain ⟨rfl, n2, rfl⟩ := hcut
        have hI2 := hIq.drewN n2
        have hC2 : RCellIs (W1.drewN n2) c mb k := Blk.drewN hCq n2
        have hF2 : ∀ x, F x → x < (W1.drewN n2).heap.size := hFq
        have hk2 := hk1.drewN n2
        generalize W1.drewN n2 = W2 at *
        clear hc hIq hCq hFq hk1 q0 q1 q2 q3
        have hcc := Blk.cell hC2
        rw [hd] at hcc
        generalize (m.holds 0 && (!m.holds 1 || decide (y1 < y0))) = bb at *
        cases bb
        all_goals
          have es := Hs.out
          simp only [Bool.false_eq_true, if_false, if_true] at es
          subst es
          have hMd := hI2.drewN 1
          have hCd : RCellIs W2.drew c mb k := Blk.drew hC2
          have hFd : ∀ x, F x → x < W2.drew.heap.size := hF2
          have hkd := hk2.drew
          replace hMd : RMemIs W2.drew mb m F := hMd
          clear hI2 hk2 hF2
          go_wp2_with fail
          go_region_held3 (fun w' => w'.cell? ⟨c, 0, none⟩ = some (.pointer (some ⟨mb, 0, none⟩)) ∧ w'.cell? ⟨c, 2, none⟩ = some (.int .u32 k.value)) (exact ⟨(Blk.cell hCd 0).trans rfl, (Blk.cell hCd 2).trans rfl⟩) (first
            | (go_at_call 90; refine (hw _ hMd hFd).mono ?_; rintro e W3 ⟨rfl, t3, k3⟩; replace hCd : RCellIs W3 c mb k := Blk.keep hCd k3 hcF))
          all_goals
            have hk3 := hkd.andThen k3 (fun x _ hx => .inl hx)
            have hc3 := Blk.cell hCd
            have hf3 := Blk.frozen hCd
            clear hcc hw
            by_cases he : er = 0
            · have hq := Hq2.out
              rw [if_neg (by simpa using he)] at hq
              subst hq
              subst he
              have hset : RCellIs (W3.setCell ⟨c, 2, none⟩ (.int .u32 (k.value + 1))) c mb ⟨k.max, k.value + 1, false⟩ := by simpa [RCellIs, hd] using Blk.set_ hCd 2 (.int .u32 (k.value + 1))
              have hMe := t3.keep (S := fun x => x = c) ((Keep.refl (fun x => x = c) W3).setCell (p := ⟨c, 2, none⟩) (fun _ => rfl) (.int .u32 (k.value + 1))) (fun x hx e => hcF (e ▸ hx)) (fun _ h => h)
              go_wp2_with fail
              refine bodyPost_ret (v := .tuple #[.int .u32 (k.value + 1), .int .i64 0]) (by simp [results, Tryz.results145, go_sem]) rfl ⟨rfl, hMe, hset, hk3.setCell (p := ⟨c, 2, none⟩) (fun _ => .inr rfl) _⟩
            · have hq := Hq2.out
              rw [if_pos he] at hq
              subst hq
              have g2 : (er != 0) = true := by simpa using he
              have hset : RCellIs (W3.setCell ⟨c, 3, none⟩ (.bool true)) c mb { k with dead := true } := by simpa [RCellIs] using Blk.set_ hCd 3 (.bool true)
              have hMe := t3.keep (S := fun x => x = c) ((Keep.refl (fun x => x = c) W3).setCell (p := ⟨c, 3, none⟩) (fun _ => rfl) (.bool true)) (fun x hx e => hcF (e ▸ hx)) (fun _ h => h)
              go_wp2_with fail
              refine bodyPost_ret (v := .tuple #[.int .u32 0, .int .i64 70]) (by simp [results, Tryz.results145, go_sem]) rfl ⟨rfl, hMe, hset, hk3.setCell (p := ⟨c, 3, none⟩) (fun _ => .inr rfl) _⟩
end Go.Proofs.YtbkkfkbgcklkgaaGreat
/- The reference's device: a new life; New; Reset. -/
namespace Go.Proofs.YtbkkfkbgcklkgaaGreat
open Go.RowKit
set_option maxHeartbeats 10000000
set_option maxRecDepth 100000

/-- A device of the reference's whose life is still to be laid. -/
structure RDPre (B : Nat) (w : World) (b mb : Nat) (p : ParM) (mx : Int) (L : List Rec) (A : Option Addr) (c : Nat) (M : MemM) (C : CellM) (κ : Nat → Option Nat) (cb : Nat) (x9 x10 x11 x12 x13 x14 x15 x16 x17 x18 x19 x20 x21 x22 x23 x24 : Value) : Prop where
  blk : Blk w b 120 #[.int .u32 p.code, .int .i64 p.out, .int .i64 p.inn, .int .i64 p.watch, .int .u32 p.count, .pointer (some ⟨mb, 0, none⟩), .int .u32 mx, .pointer (some ⟨cb, 0, none⟩), .slice A L.length c, x9, x10, x11, x12, x13, x14, x15, x16, x17, x18, x19, x20, x21, x22, x23, x24]
  log : w.ownsRow 0 175 4 (.slice A L.length c) L.length (recsCells L)
  mem : RMemIs w mb M (Of κ 5)
  cell : RCellIs w cb mb C
  kb : Of κ 0 b
  kl : ∀ x, (Value.slice A L.length c).ownBlock = some x → Of κ 1 x
  kc : Of κ 6 cb
  lo : ∀ x, κ x ≠ none → B ≤ x ∧ x < w.heap.size
theorem RDAt.pre {B : Nat} {w : World} {b mb cb : Nat} {m : DevM} {κ : Nat → Option Nat} {A : Option Addr} {c : Nat} {vv val : Value} (h : RDAt B w b mb m κ A c vv val cb) :
    RDPre B w b mb m.p m.max m.log A c m.m m.cell κ cb (.int .i64 m.p.watch) (.int .i64 m.since) (.int .i64 m.p.out) (.bool m.valve.running) (.bool m.valve.held) (.bool m.valve.fresh) (.int .i64 m.valve.latched) vv (.bool m.valve.value.isSome) (.int .i64 m.state) (.int .u32 m.session) (.int .u32 m.number) (.int .u32 m.sent) (.int .i64 m.odd) val (.bool m.hold) :=
  ⟨h.blk, h.log, h.mem, h.cell, h.kb, h.kl, h.kc, h.lo⟩
theorem rdLife_any (B b mb : Nat) (p : ParM) (mx : Int) (L : List Rec) (A : Option Addr) (c : Nat) (M : MemM) (C : CellM) (κ : Nat → Option Nat) (cb : Nat) (x9 x10 x11 x12 x13 x14 x15 x16 x17 x18 x19 x20 x21 x22 x23 x24 : Value) (s : Int) (w : World) (hp : p.lawful = true) (h : RDPre B w b mb p mx L A c M C κ cb x9 x10 x11 x12 x13 x14 x15 x16 x17 x18 x19 x20 x21 x22 x23 x24) :
    Calls Tryz.prog 48 #[.pointer (some ⟨b, 0, none⟩), .int .i64 s] w fun e w' => e = .returned (.tuple #[]) ∧ (∃ val, RDAt B w' b mb { p := p, m := M, max := mx, cell := C, log := L, state := s, value := List.replicate p.inn.toNat 0 } (paint κ 3 w w') A c (.slice none 0 0) val cb) ∧ Keep (fun x => x = b) w w' := by
  have hlaw := hp
  simp [ParM.lawful] at hlaw
  obtain ⟨N, hN⟩ : ∃ N : Nat, p.inn = (N : Int) := ⟨p.inn.toNat, by omega⟩
  have hN8 : N ≤ 8 := by omega
  have HN := Lib.hid hN
  have hmk := run_make_row' (P := Tryz.prog) 41 5 (.int .u8 0) 1 Tryz.underlying41 byte_info rfl .i64 .i64 N (by omega) (by omega)
  have hb := h.blk
  rw [hN] at hb
  clear hlaw hN
  have hc := hb.cell
  have hf := hb.frozen
  have hlt := hb.lt
  go_enter Tryz.func48, Tryz.ntmps48
  go_wp2_with fail
  go_end0
  clear hc hf
  have hb1 := ((((((((((((((((hb.set_ 9 (.int .i64 p.watch)).set_ 10 (.int .i64 0)).set_ 11 (.int .i64 p.out)).set_ 12 (.bool false)).set_ 13 (.bool false)).set_ 14 (.bool false)).set_ 15 (.int .i64 0)).set_ 16 (.slice none 0 0)).set_ 17 (.bool false)).set_ 18 (.int .i64 s)).set_ 19 (.int .u32 0)).set_ 20 (.int .u32 0)).set_ 21 (.int .u32 0)).set_ 22 (.int .i64 0)).set_ 23 (.slice (some ⟨w.heap.size, 0, none⟩) N N)).set_ 24 (.bool false))
  have hk1 : Keep (fun x => x = b) w ((((((((((((((((w.setCell ⟨b, 9, none⟩ (.int .i64 p.watch)).setCell ⟨b, 10, none⟩ (.int .i64 0)).setCell ⟨b, 11, none⟩ (.int .i64 p.out)).setCell ⟨b, 12, none⟩ (.bool false)).setCell ⟨b, 13, none⟩ (.bool false)).setCell ⟨b, 14, none⟩ (.bool false)).setCell ⟨b, 15, none⟩ (.int .i64 0)).setCell ⟨b, 16, none⟩ (.slice none 0 0)).setCell ⟨b, 17, none⟩ (.bool false)).setCell ⟨b, 18, none⟩ (.int .i64 s)).setCell ⟨b, 19, none⟩ (.int .u32 0)).setCell ⟨b, 20, none⟩ (.int .u32 0)).setCell ⟨b, 21, none⟩ (.int .u32 0)).setCell ⟨b, 22, none⟩ (.int .i64 0)).setCell ⟨b, 23, none⟩ (.slice (some ⟨w.heap.size, 0, none⟩) N N)).setCell ⟨b, 24, none⟩ (.bool false)) := (keepB (i := 24) (x := .bool false) (keepB (i := 23) (x := .slice (some ⟨w.heap.size, 0, none⟩) N N) (keepB (i := 22) (x := .int .i64 0) (keepB (i := 21) (x := .int .u32 0) (keepB (i := 20) (x := .int .u32 0) (keepB (i := 19) (x := .int .u32 0) (keepB (i := 18) (x := .int .i64 s) (keepB (i := 17) (x := .bool false) (keepB (i := 16) (x := .slice none 0 0) (keepB (i := 15) (x := .int .i64 0) (keepB (i := 14) (x := .bool false) (keepB (i := 13) (x := .bool false) (keepB (i := 12) (x := .bool false) (keepB (i := 11) (x := .int .i64 p.out) (keepB (i := 10) (x := .int .i64 0) (keepB (i := 9) (x := .int .i64 p.watch) (Keep.refl (fun x => x = b) w)))))))))))))))))
  have hz1 : ((((((((((((((((w.setCell ⟨b, 9, none⟩ (.int .i64 p.watch)).setCell ⟨b, 10, none⟩ (.int .i64 0)).setCell ⟨b, 11, none⟩ (.int .i64 p.out)).setCell ⟨b, 12, none⟩ (.bool false)).setCell ⟨b, 13, none⟩ (.bool false)).setCell ⟨b, 14, none⟩ (.bool false)).setCell ⟨b, 15, none⟩ (.int .i64 0)).setCell ⟨b, 16, none⟩ (.slice none 0 0)).setCell ⟨b, 17, none⟩ (.bool false)).setCell ⟨b, 18, none⟩ (.int .i64 s)).setCell ⟨b, 19, none⟩ (.int .u32 0)).setCell ⟨b, 20, none⟩ (.int .u32 0)).setCell ⟨b, 21, none⟩ (.int .u32 0)).setCell ⟨b, 22, none⟩ (.int .i64 0)).setCell ⟨b, 23, none⟩ (.slice (some ⟨w.heap.size, 0, none⟩) N N)).setCell ⟨b, 24, none⟩ (.bool false)).heap.size = w.heap.size := by simp [World.setCell]
  simp only [List.setIfInBounds_toArray, List.set_cons_zero, List.set_cons_succ] at hb1
  generalize ((((((((((((((((w.setCell ⟨b, 9, none⟩ (.int .i64 p.watch)).setCell ⟨b, 10, none⟩ (.int .i64 0)).setCell ⟨b, 11, none⟩ (.int .i64 p.out)).setCell ⟨b, 12, none⟩ (.bool false)).setCell ⟨b, 13, none⟩ (.bool false)).setCell ⟨b, 14, none⟩ (.bool false)).setCell ⟨b, 15, none⟩ (.int .i64 0)).setCell ⟨b, 16, none⟩ (.slice none 0 0)).setCell ⟨b, 17, none⟩ (.bool false)).setCell ⟨b, 18, none⟩ (.int .i64 s)).setCell ⟨b, 19, none⟩ (.int .u32 0)).setCell ⟨b, 20, none⟩ (.int .u32 0)).setCell ⟨b, 21, none⟩ (.int .u32 0)).setCell ⟨b, 22, none⟩ (.int .i64 0)).setCell ⟨b, 23, none⟩ (.slice (some ⟨w.heap.size, 0, none⟩) N N)).setCell ⟨b, 24, none⟩ (.bool false)) = W3 at *
  clear hb hmk
  have hb4 := hb1.alloc (.cells (madeCells #[.int .u8 0] N) 5)
  have hk4 := hk1.alloc (.cells (madeCells #[.int .u8 0] N) 5)
  have hmade := own_made W3 N (by omega)
  have hz4 : w.heap.size < (W3.alloc (.cells (madeCells #[.int .u8 0] N) 5)).heap.size := by simp [hz1]
  rw [hz1] at hmade
  generalize W3.alloc (.cells (madeCells #[.int .u8 0] N) 5) = W4 at *
  have eN : p.inn.toNat = N := by rw [HN.out]; rfl
  have eL : (List.replicate N (0 : UInt8)).length = N := by simp
  have hS : ∀ t x, t ≠ 0 → Of κ t x → ¬ x = b := fun t x ht hx e => (hx.ne ht) (e ▸ h.kb)
  have hB : B ≤ w.heap.size := by have := h.lo b h.kb.has; omega
  refine ⟨rfl, ⟨.slice (some ⟨w.heap.size, 0, none⟩) N N, ?_⟩, hk4⟩
  exact {
    blk := by rw [← HN.out] at hb4; exact hb4
    log := ownsRow_keep h.log hk4 (fun x hx => hS 1 x (by decide) (h.kl x hx))
    vval := rfl
    value := by show W4.ownsRow 0 5 1 _ (List.replicate p.inn.toNat (0 : UInt8)).length _; rw [eN, eL]; exact own_base hmade (Nat.zero_le _)
    mem := h.mem.keep hk4 (fun x => hS 5 x (by decide)) (fun x hx => paint_old hx h.lo)
    cell := Blk.keep h.cell hk4 (hS 6 _ (by decide) h.kc)
    kb := paint_old h.kb h.lo
    kl := fun x hx => paint_old (h.kl x hx) h.lo
    kv := fun x hx => by simp [Value.ownBlock] at hx
    kx := fun x hx => by simp [Value.ownBlock] at hx; subst hx; exact paint_new (Nat.le_refl _) hz4
    kc := paint_old h.kc h.lo
    lo := paint_lo h.lo hB hk4.size }
theorem rdLifeTo_any (B b mb : Nat) (m : DevM) (F : Nat → Prop) (s : Int) (w : World) (hI : RDIs B w b mb m F) (hp : m.p.lawful = true) :
    Calls Tryz.prog 48 #[.pointer (some ⟨b, 0, none⟩), .int .i64 s] w fun e w' => e = .returned (.tuple #[]) ∧ RDTo B w b mb (m.life s) F w' := by
  have hI0 := hI
  obtain ⟨⟨κ, A, c, vv, val, cb, hH, hF⟩, hlo⟩ := hI
  refine (rdLife_any B b mb m.p m.max m.log A c m.m m.cell κ cb _ _ _ _ _ _ _ _ _ _ _ _ _ _ _ _ s w hp hH.pre).mono ?_
  rintro e w' ⟨rfl, ⟨val', h1⟩, hk⟩
  exact ⟨rfl, RDAt.toIs (m1 := m.life s) h1 hI0 (paint_sub hF) (hk.mono (fun x _ e => e ▸ hI0.Fb))⟩
/-- What a device has of a new cell. -/
theorem RDAt.newCell {B : Nat} {w w' : World} {b mb cb cb' : Nat} {m : DevM} {κ : Nat → Option Nat} {A : Option Addr} {c : Nat} {vv val : Value} {M' : MemM} {C' : CellM} (h : RDAt B w b mb m κ A c vv val cb) (hb : Blk w' b 120 (rdCells { m with m := M', cell := C' } mb cb' (.slice A m.log.length c) vv val)) (hm : RMemIs w' mb M' (Of κ 5)) (hc : RCellIs w' cb' mb C') (hk : Keep (fun x => Of κ 5 x ∨ x = b) w w') (h1 : w.heap.size ≤ cb') (h2 : cb' < w'.heap.size) :
    RDAt B w' b mb { m with m := M', cell := C' } (paint κ 6 w w') A c vv val cb' :=
  have hS : ∀ t x, t ≠ 5 → t ≠ 0 → Of κ t x → ¬ (Of κ 5 x ∨ x = b) := fun t x h5 h0 hx e => e.elim (hx.ne h5) (fun e => (hx.ne h0) (e ▸ h.kb))
  { blk := hb
    log := ownsRow_keep h.log hk (fun x hx => hS 1 x (by decide) (by decide) (h.kl x hx))
    vval := h.vval.keep hk (fun x hx => hS 2 x (by decide) (by decide) (h.kv x hx))
    value := ownsRow_keep h.value hk (fun x hx => hS 3 x (by decide) (by decide) (h.kx x hx))
    mem := hm.keep (S := fun _ => False) (Keep.refl _ _) (fun _ _ h => h) (fun x hx => paint_old hx h.lo)
    cell := hc
    kb := paint_old h.kb h.lo
    kl := fun x hx => paint_old (h.kl x hx) h.lo
    kv := fun x hx => paint_old (h.kv x hx) h.lo
    kx := fun x hx => paint_old (h.kx x hx) h.lo
    kc := paint_new h1 h2
    lo := paint_lo h.lo h.Ble hk.size }
theorem rdReset_any (B b mb : Nat) (m : DevM) (F : Nat → Prop) (n : Int) (w : World) (hI : RDIs B w b mb m F) (hi : m.Inv) (hn : n < 9223372036854775808) :
    Calls Tryz.prog 68 #[.pointer (some ⟨b, 0, none⟩), .int .i64 n] w fun e w' => e = .returned (.int .i64 (m.reset n).2) ∧ RDTo B w b mb (m.reset n).1 F w' := by
  have hI0 := hI
  by_cases h0 : n < 0
  · have e1 : m.reset n = (m, 2) := by unfold DevM.reset; rw [if_pos h0]
    rw [e1]
    go_enter Tryz.func68, Tryz.ntmps68
    go_wp2_with fail
    go_ret
    exact ⟨rfl, RDTo.refl hI0⟩
  obtain ⟨q, Hq⟩ : ∃ q, Hid (q = m.reset n) := ⟨_, Lib.hid rfl⟩
  rw [← Hq.out]
  obtain ⟨M2, HM2⟩ : ∃ M2 : MemM, Hid (M2 = if 0 < n then (m.m.on.arm (n - 1)).1 else m.m.on) := ⟨_, Lib.hid rfl⟩
  have Hq1 : Hid (q = match openM M2 m.max with
    | (m', some c, _) => ({ (m.life 1) with m := m', cell := c }, 0)
    | (m', none, e) => ({ (m.life 6) with m := m' }, e)) := Lib.hid (by rw [Hq.out, HM2.out]; unfold DevM.reset; rw [if_neg h0]; rfl)
  clear Hq
  have hnw : IntKind.i64.wrap (n - 1) = n - 1 := IntWalk.i64_in _ (by omega)
  have hmx := hi.mx
  -- a new life
  have hlife := rdLifeTo_any B b mb m F 1 w hI0 hi.plaw
  go_enter Tryz.func68, Tryz.ntmps68
  go_wp2_with fail
  refine hlife.mono ?_
  rintro e W1 ⟨rfl, t1⟩
  have hs1 := t1.keep.size
  obtain ⟨⟨κ1, A1, c1, vv1, val1, cb1, hH1, hF1⟩, _⟩ := id t1.is_
  have hc := hH1.blk.cell
  unfold rdCells at hc
  clear hlife
  go_wp2_with fail
  refine (rmemOn_any mb _ (Of κ1 5) W1 hH1.mem).mono ?_
  rintro e W2 ⟨rfl, tm⟩
  have h2 := hH1.onMem tm
  have t2 := RDTo.trans hI0 t1 (hH1.toMem t1.is_ hF1 tm)
  have hz2 := tm.size
  clear hc tm hH1
  have hc := h2.blk.cell
  unfold rdCells at hc
  by_cases hp : 0 < n
  case' pos =>
    have e2 : M2 = (m.m.on.arm (n - 1)).1 := by rw [HM2.out, if_pos hp]
    go_wp2_with fail
    refine (rmemArm_any mb m.m.on (Of κ1 5) (n - 1) W2 h2.mem (by omega)).mono ?_
    rintro e W3 ⟨rfl, ta⟩
    rw [← e2] at ta
    have h3 : RDAt B W3 b mb { (m.life 1) with m := M2 } κ1 A1 c1 vv1 val1 cb1 := h2.onMem ta
    have hz3 : W3.heap.size = W1.heap.size := by have := ta.size; omega
    have hk3 : Keep F w W3 := t2.keep.andThen ta.keep (fun x hx hh => by
      rcases hF1 x (Of.has hh) with h | h
      · exact h
      · omega)
    clear ta e2
  case' neg =>
    have e2 : M2 = m.m.on := by rw [HM2.out, if_neg hp]
    obtain ⟨W3, rfl⟩ : ∃ W : World, W = W2 := ⟨_, rfl⟩
    have h3 : RDAt B W3 b mb { (m.life 1) with m := M2 } κ1 A1 c1 vv1 val1 cb1 := by rw [e2]; exact h2
    have hz3 : W3.heap.size = W1.heap.size := by omega
    have hk3 : Keep F w W3 := t2.keep
    clear e2
  all_goals
    clear hc h2 t2 HM2
    have hF3 : ∀ x, κ1 x ≠ none → grow F w W3 x := fun x hx => (hF1 x hx).elim .inl (fun h => .inr ⟨h.1, by omega⟩)
    have t3 := h3.toIs hI0 hF3 hk3
    have hop := fun W h hF => rOpen_any mb M2 (Of κ1 5) m.max W h hF
    have hno := @openM_none M2 m.max
    have hso := @openM_some M2 m.max
    generalize openM M2 m.max = r at *
    obtain ⟨M4, co, er⟩ := r
    simp only at hop Hq1 hno hso
    have h3d := h3.drew
    have hb3 := h3d.blk
    have hc := h3.blk.cell
    unfold rdCells at hc
    have hcd : W3.drew.cell? ⟨b, 5, none⟩ = some (.pointer (some ⟨mb, 0, none⟩)) ∧ W3.drew.cell? ⟨b, 6, none⟩ = some (.int .u32 m.max) := ⟨(hb3.cell 5).trans rfl, (hb3.cell 6).trans rfl⟩
    have hlt : ∀ x, Of κ1 5 x → x < W3.drew.heap.size := fun x hx => (h3.inF hx).2
    have hka : ¬ Of κ1 5 b := h3.kb.ne (by decide)
    have hk3d := hk3.drew
    clear h3 hk3
    cases co with
    | some k =>
      obtain ⟨_, _, her⟩ := hso (k := k) rfl
      subst her
      have hq : q = ({ (m.life 1) with m := M4, cell := k }, 0) := Hq1.out
      subst hq
      clear hso hno Hq1
      go_wp2_with fail
      go_region_held (fun w' => w'.cell? ⟨b, 5, none⟩ = some (.pointer (some ⟨mb, 0, none⟩)) ∧ w'.cell? ⟨b, 6, none⟩ = some (.int .u32 m.max)) (exact ⟨(hb3.cell 5).trans rfl, (hb3.cell 6).trans rfl⟩) (first
        | (go_at_call 47; refine (hop _ h3d.mem hlt).mono ?_; rintro e W4 ⟨⟨hm4, hk4⟩, c4, rfl, _, hcell4, hl1, hl2⟩; replace hb3 := hb3.keep hk4 hka))
      have hf4 := hb3.frozen
      clear hc
      have hc := hb3.cell
      unfold rdCells at hc
      have hk6 : Keep (fun x => Of κ1 5 x ∨ x = b) W3.drew (W4.setCell ⟨b, 7, none⟩ (.pointer (some ⟨c4, 0, none⟩))) := (hk4.mono (fun x _ hx => .inl hx)).setCell (p := ⟨b, 7, none⟩) (fun _ => .inr rfl) _
      have hbl := hb3.lt
      have hcb : b ≠ c4 := by have := (h3d.inF h3d.kb).2; omega
      have h5 := h3d.newCell (w' := W4.setCell ⟨b, 7, none⟩ (.pointer (some ⟨c4, 0, none⟩))) (M' := M4) (C' := k) (cb' := c4) (by simpa [rdCells] using hb3.set_ 7 (.pointer (some ⟨c4, 0, none⟩))) (hm4.keep (S := fun x => x = b) (keepB (Keep.refl _ W4)) (fun x hx e => hka (e ▸ hx)) (fun _ h => h)) (Blk.far hcell4 (p := ⟨b, 7, none⟩) (fun e => hcb e.symm) _) hk6 hl1 (by simpa [World.setCell] using hl2)
      have T := h5.toIs hI0 (fun x hx => grow_grow (w1 := W3.drew) hk3d.size hk6.size x (paint_sub (F := grow F w W3.drew) hF3 x hx)) (hk3d.andThen hk6 (fun x hx hh => by
        rcases hh with hh | hh
        · rcases hF1 x (Of.has hh) with h | h
          · exact h
          · omega
        · exact hh ▸ hI0.Fb))
      have HT := Lib.hid T
      clear T h5 hk6 hk4 hcell4 hm4
      go_wp2_with fail
      go_ret
      exact ⟨rfl, HT.out⟩
    | none =>
      have her := hno rfl
      have hq : q = ({ (m.life 6) with m := M4 }, er) := Hq1.out
      subst hq
      have ger : (er != 0) = true := by simpa using her
      clear hso hno Hq1
      go_wp2_with fail
      go_region_held (fun w' => w'.cell? ⟨b, 5, none⟩ = some (.pointer (some ⟨mb, 0, none⟩)) ∧ w'.cell? ⟨b, 6, none⟩ = some (.int .u32 m.max)) (exact ⟨(hb3.cell 5).trans rfl, (hb3.cell 6).trans rfl⟩) (first
        | (go_at_call 47; refine (hop _ h3d.mem hlt).mono ?_; rintro e W4 ⟨⟨hm4, hk4⟩, rfl⟩; replace hb3 := hb3.keep hk4 hka))
      have h4 := h3d.onCell hm4 (Blk.keep h3d.cell hk4 (h3d.kc.ne (by decide))) (hk4.mono (fun x _ h => .inl h))
      have hs4 := hk4.size
      have T := h4.toIs hI0 (fun x hx => (hF3 x hx).elim .inl (fun h => .inr ⟨h.1, Nat.lt_of_lt_of_le h.2 hs4⟩)) (hk3d.andThen hk4 (fun x hx hh => by
        rcases hF1 x (Of.has hh) with h | h
        · exact h
        · omega))
      clear hc hcd h4
      go_wp2_with fail
      refine (rdLifeTo_any B b mb _ _ 6 W4 T.is_ hi.plaw).mono ?_
      rintro e W5 ⟨rfl, t5⟩
      have T5 := RDTo.trans hI0 T t5
      go_wp2_with fail
      go_ret
      exact ⟨rfl, T5⟩
end Go.Proofs.YtbkkfkbgcklkgaaGreat
/- The reference's device: wish. -/
namespace Go.Proofs.YtbkkfkbgcklkgaaGreat
open Go.RowKit
set_option maxHeartbeats 10000000
set_option maxRecDepth 100000

theorem rdWish_any (B b mb : Nat) (m : DevM) (F : Nat → Prop) (w : World) (hI : RDIs B w b mb m F) (hi : m.Inv) (hlen : m.log.length < 1073741820) :
    Calls Tryz.prog 99 #[.pointer (some ⟨b, 0, none⟩)] w fun e w' => RDAns B w b mb F m.wish e w' := by
  have hI0 := hI
  obtain ⟨⟨κ, A, c, vv, val, cb, hH, hF⟩, hlo⟩ := hI
  have hc := hH.blk.cell
  unfold rdCells at hc
  have hbz := rdBusy_any b mb cb m _ vv val w hH.blk
  obtain ⟨q, Hq⟩ : ∃ q, Hid (q = m.wish) := ⟨_, Lib.hid rfl⟩
  rw [← Hq.out]
  unfold RDAns
  cases hbu : m.busy with
  | false =>
    rw [hbu] at hbz
    have Hq0 : Hid (q = m.begin_) := Lib.hid (by rw [Hq.out]; unfold DevM.wish; rw [hbu]; rfl)
    clear Hq hbu
    go_enter Tryz.func99, Tryz.ntmps99
    go_wp2_with fail
    refine hbz.mono ?_
    rintro e W0 ⟨rfl, rfl⟩
    have hnx := rNext_any cb mb m.cell m.m (Of κ 5) _ hH.mem hH.cell (fun x hx => (hH.inF hx).2) (hH.kc.ne (by decide)) hi.mem ⟨hi.cval.1, by rw [hi.cmax]; exact hi.mx.2⟩
    have hnc := next_cell m.cell m.m hi.cval.1 (by rw [hi.cmax]; exact hi.mx.2) hi.cval.2
    have hnl := next_len m.cell m.m
    have hne := next_err m.cell m.m
    have hcm := hi.cmax
    have hme := hi.mem
    have Hq1 : Hid (q = (if (m.cell.next m.m).2.2.2 = 80 then ((({ m with cell := (m.cell.next m.m).1, m := (m.cell.next m.m).2.1 } : DevM).trip 80).leave 5, ((({ m with cell := (m.cell.next m.m).1, m := (m.cell.next m.m).2.1 } : DevM).trip 80).leave 5).none, 80)
      else if (m.cell.next m.m).2.2.2 ≠ 0 then (({ m with cell := (m.cell.next m.m).1, m := (m.cell.next m.m).2.1 } : DevM).life 6, [], 70)
      else ({ (({ m with cell := (m.cell.next m.m).1, m := (m.cell.next m.m).2.1 } : DevM).leave 2) with session := (m.cell.next m.m).2.2.1 }, DevM.offer { (({ m with cell := (m.cell.next m.m).1, m := (m.cell.next m.m).2.1 } : DevM).leave 2) with session := (m.cell.next m.m).2.2.1 }, 0))) := Lib.hid (by rw [Hq0.out]; rfl)
    clear Hq0
    have Hm := Lib.hid hcm
    generalize m.cell.next m.m = r at *
    obtain ⟨c', m', s, er⟩ := r
    simp only at hnx hnc hnl hne
    have hgi : ({ m with cell := c', m := m' } : DevM).Inv := { hi with cmax := by have := Hm.out; simp only; omega, cval := hnc.2.1, mem := by simp only; omega }
    clear hcm hme hnl Hm
    go_wp2_with fail
    refine hnx.mono ?_
    rintro e W1 ⟨rfl, hm1, hc1, hk1⟩
    have tN := id (hH.toCell hI0 hF hm1 hc1 hk1)
    clear hc hnx hm1 hc1 hk1 hH
    rcases hne with rfl | rfl | rfl
    · have hq := Hq1.out
      rw [if_neg (by simp), if_neg (by simp)] at hq
      clear Hq1
      have hki : ({ (({ m with cell := c', m := m' } : DevM).leave 2) with session := s } : DevM).Inv := { hgi.leave 2 (by omega) with session := hnc.2.2 }
      obtain ⟨of, Hof⟩ : ∃ of, Hid (of = DevM.offer { (({ m with cell := c', m := m' } : DevM).leave 2) with session := s }) := ⟨_, Lib.hid rfl⟩
      have Hf : Hid (q = (_, of, _)) := Lib.hid (by rw [Hof.out]; exact hq)
      clear hq
      go_wp2_with fail
      refine (rdLeave_any B b mb _ _ 2 W1 tN.is_).mono ?_
      rintro e W2 ⟨rfl, t2⟩
      have tQ := RDTo.trans hI0 tN t2
      obtain ⟨⟨κ2, A2, c2, vv2, val2, cb2, h2, hF2⟩, _⟩ := tQ.is_
      have hb2 := h2.blk
      have hc2 := hb2.cell
      have hf2 := hb2.frozen
      unfold rdCells at hc2
      have h3 : RDAt B (W2.setCell ⟨b, 19, none⟩ (.int .u32 s)) b mb { (({ m with cell := c', m := m' } : DevM).leave 2) with session := s } κ2 A2 c2 vv2 val2 cb2 :=
        h2.upd (keepB (Keep.refl _ W2)) (by simp [World.setCell]) (by simpa [rdCells] using hb2.set_ 19 (.int .u32 s)) rfl rfl rfl rfl rfl
      have t3 := RDTo.trans hI0 tQ (h2.toOwn tQ.is_ hF2 h3 (keepB (Keep.refl _ W2)))
      have hof := fun G W hW => rdOffer_any B b mb { (({ m with cell := c', m := m' } : DevM).leave 2) with session := s } G W hW hki
      rw [← Hof.out] at hof
      clear h2 h3 hb2 t2 tQ
      go_wp2_with fail
      refine (hof _ _ t3.is_).mono ?_
      rintro e W3 ⟨v3, rfl, hown3, hb3⟩
      obtain ⟨A3, c3, rfl⟩ := own_slice hown3
      have hs3 := t3.keep.size
      clear hc2 hf2 hof
      go_wp2_with fail
      refine bodyPost_ret (v := .tuple #[.slice A3 of.length c3, .int .i64 0]) (by simp [results, Tryz.results99, go_sem]) rfl ?_
      rw [Hf.out]
      exact ⟨_, rfl, own_base hown3 hs3, RDAp.end_ hI0 t3 hb3 hown3⟩
    · have hq := Hq1.out
      rw [if_neg (by simp), if_pos (by simp)] at hq
      have Hf := Lib.hid hq
      clear hq Hq1
      go_wp2_with fail
      refine (rdLifeTo_any B b mb _ _ 6 W1 tN.is_ hgi.plaw).mono ?_
      rintro e W2 ⟨rfl, t2⟩
      have tQ := RDTo.trans hI0 tN t2
      go_wp2_with fail
      refine bodyPost_ret (v := .tuple #[.slice none 0 0, .int .i64 70]) (by simp [results, Tryz.results99, go_sem]) rfl ?_
      rw [Hf.out]
      exact ⟨_, rfl, World.ownsRow_nil _ _ _ _, RDAp.nil_ tQ⟩
    · have hq := Hq1.out
      rw [if_pos rfl] at hq
      clear Hq1
      obtain ⟨of, Hof⟩ : ∃ of, Hid (of = ((({ m with cell := c', m := m' } : DevM).trip 80).leave 5).none) := ⟨_, Lib.hid rfl⟩
      have Hf : Hid (q = (_, of, _)) := Lib.hid (by rw [Hof.out]; exact hq)
      clear hq
      have hnn := fun G W hW => rdNone_any B b mb ((({ m with cell := c', m := m' } : DevM).trip 80).leave 5) G W hW ((hgi.trip 80).leave 5 (by omega))
      rw [← Hof.out] at hnn
      go_wp2_with fail
      refine (rdLatch_any B b mb _ _ 80 W1 (by decide) tN.is_ (by simp only; omega)).mono ?_
      rintro e W2 ⟨rfl, t2⟩
      have tQ := RDTo.trans hI0 tN t2
      go_wp2_with fail
      refine (rdLeave_any B b mb _ _ 5 W2 tQ.is_).mono ?_
      rintro e W3 ⟨rfl, t3⟩
      have tR := RDTo.trans hI0 tQ t3
      clear t2 tQ t3
      go_wp2_with fail
      refine (hnn _ _ tR.is_).mono ?_
      rintro e W4 ⟨v4, rfl, hown4, hb4⟩
      obtain ⟨A4, c4, rfl⟩ := own_slice hown4
      have hs4 := tR.keep.size
      go_wp2_with fail
      refine bodyPost_ret (v := .tuple #[.slice A4 of.length c4, .int .i64 80]) (by simp [results, Tryz.results99, go_sem]) rfl ?_
      rw [Hf.out]
      exact ⟨_, rfl, own_base hown4 hs4, RDAp.end_ hI0 tR hb4 hown4⟩
  | true =>
    rw [hbu] at hbz
    have hst := rdStrange_any B b mb m F w hI0 hi (by omega)
    have hqi := hi.strange
    have hsl := strange_log m
    have Hqs : Hid (q = if m.strange.2 then m.strange.1.begin_ else if m.strange.1.state = 2 then (m.strange.1, m.strange.1.offer, 130) else (m.strange.1, m.strange.1.none, 130)) := Lib.hid (by rw [Hq.out]; unfold DevM.wish; rw [hbu]; rfl)
    clear Hq hbu hc hH
    generalize m.strange = st at *
    obtain ⟨k, ov⟩ := st
    simp only at *
    go_enter Tryz.func99, Tryz.ntmps99
    go_wp2_with fail
    refine hbz.mono ?_
    rintro e W0 ⟨rfl, rfl⟩
    go_wp2_with fail
    refine hst.mono ?_
    rintro e W0 ⟨rfl, t0⟩
    cases ov with
    | true =>
      have Hq0 : Hid (q = k.begin_) := Lib.hid (by rw [Hqs.out]; rfl)
      clear Hqs hbz hst
      clear κ A c vv val cb hF
      have hI1 := t0.is_
      obtain ⟨⟨κ, A, c, vv, val, cb, hH, hF⟩, hlo1⟩ := t0.is_
      have hc := hH.blk.cell
      unfold rdCells at hc
      have hnx := rNext_any cb mb k.cell k.m (Of κ 5) _ hH.mem hH.cell (fun x hx => (hH.inF hx).2) (hH.kc.ne (by decide)) hqi.mem ⟨hqi.cval.1, by rw [hqi.cmax]; exact hqi.mx.2⟩
      have hnc := next_cell k.cell k.m hqi.cval.1 (by rw [hqi.cmax]; exact hqi.mx.2) hqi.cval.2
      have hnl := next_len k.cell k.m
      have hne := next_err k.cell k.m
      have hcm := hqi.cmax
      have hme := hqi.mem
      have Hq1 : Hid (q = (if (k.cell.next k.m).2.2.2 = 80 then ((({ k with cell := (k.cell.next k.m).1, m := (k.cell.next k.m).2.1 } : DevM).trip 80).leave 5, ((({ k with cell := (k.cell.next k.m).1, m := (k.cell.next k.m).2.1 } : DevM).trip 80).leave 5).none, 80)
        else if (k.cell.next k.m).2.2.2 ≠ 0 then (({ k with cell := (k.cell.next k.m).1, m := (k.cell.next k.m).2.1 } : DevM).life 6, [], 70)
        else ({ (({ k with cell := (k.cell.next k.m).1, m := (k.cell.next k.m).2.1 } : DevM).leave 2) with session := (k.cell.next k.m).2.2.1 }, DevM.offer { (({ k with cell := (k.cell.next k.m).1, m := (k.cell.next k.m).2.1 } : DevM).leave 2) with session := (k.cell.next k.m).2.2.1 }, 0))) := Lib.hid (by rw [Hq0.out]; rfl)
      clear Hq0
      have Hk := Lib.hid hcm
      generalize k.cell.next k.m = r at *
      obtain ⟨c', m', s, er⟩ := r
      simp only at hnx hnc hnl hne
      have hgi : ({ k with cell := c', m := m' } : DevM).Inv := { hqi with cmax := by have := Hk.out; simp only; omega, cval := hnc.2.1, mem := by simp only; omega }
      clear hcm hme hnl Hk
      go_wp2_with fail
      refine hnx.mono ?_
      rintro e W1 ⟨rfl, hm1, hc1, hk1⟩
      have tN := RDTo.trans hI0 t0 (hH.toCell hI1 hF hm1 hc1 hk1)
      clear hc hnx hm1 hc1 hk1 hH
      rcases hne with rfl | rfl | rfl
      · have hq := Hq1.out
        rw [if_neg (by simp), if_neg (by simp)] at hq
        clear Hq1
        have hki : ({ (({ k with cell := c', m := m' } : DevM).leave 2) with session := s } : DevM).Inv := { hgi.leave 2 (by omega) with session := hnc.2.2 }
        obtain ⟨of, Hof⟩ : ∃ of, Hid (of = DevM.offer { (({ k with cell := c', m := m' } : DevM).leave 2) with session := s }) := ⟨_, Lib.hid rfl⟩
        have Hf : Hid (q = (_, of, _)) := Lib.hid (by rw [Hof.out]; exact hq)
        clear hq
        go_wp2_with fail
        refine (rdLeave_any B b mb _ _ 2 W1 tN.is_).mono ?_
        rintro e W2 ⟨rfl, t2⟩
        have tQ := RDTo.trans hI0 tN t2
        obtain ⟨⟨κ2, A2, c2, vv2, val2, cb2, h2, hF2⟩, _⟩ := tQ.is_
        have hb2 := h2.blk
        have hc2 := hb2.cell
        have hf2 := hb2.frozen
        unfold rdCells at hc2
        have h3 : RDAt B (W2.setCell ⟨b, 19, none⟩ (.int .u32 s)) b mb { (({ k with cell := c', m := m' } : DevM).leave 2) with session := s } κ2 A2 c2 vv2 val2 cb2 :=
          h2.upd (keepB (Keep.refl _ W2)) (by simp [World.setCell]) (by simpa [rdCells] using hb2.set_ 19 (.int .u32 s)) rfl rfl rfl rfl rfl
        have t3 := RDTo.trans hI0 tQ (h2.toOwn tQ.is_ hF2 h3 (keepB (Keep.refl _ W2)))
        have hof := fun G W hW => rdOffer_any B b mb { (({ k with cell := c', m := m' } : DevM).leave 2) with session := s } G W hW hki
        rw [← Hof.out] at hof
        clear h2 h3 hb2 t2 tQ
        go_wp2_with fail
        refine (hof _ _ t3.is_).mono ?_
        rintro e W3 ⟨v3, rfl, hown3, hb3⟩
        obtain ⟨A3, c3, rfl⟩ := own_slice hown3
        have hs3 := t3.keep.size
        clear hc2 hf2 hof
        go_wp2_with fail
        refine bodyPost_ret (v := .tuple #[.slice A3 of.length c3, .int .i64 0]) (by simp [results, Tryz.results99, go_sem]) rfl ?_
        rw [Hf.out]
        exact ⟨_, rfl, own_base hown3 hs3, RDAp.end_ hI0 t3 hb3 hown3⟩
      · have hq := Hq1.out
        rw [if_neg (by simp), if_pos (by simp)] at hq
        have Hf := Lib.hid hq
        clear hq Hq1
        go_wp2_with fail
        refine (rdLifeTo_any B b mb _ _ 6 W1 tN.is_ hgi.plaw).mono ?_
        rintro e W2 ⟨rfl, t2⟩
        have tQ := RDTo.trans hI0 tN t2
        go_wp2_with fail
        refine bodyPost_ret (v := .tuple #[.slice none 0 0, .int .i64 70]) (by simp [results, Tryz.results99, go_sem]) rfl ?_
        rw [Hf.out]
        exact ⟨_, rfl, World.ownsRow_nil _ _ _ _, RDAp.nil_ tQ⟩
      · have hq := Hq1.out
        rw [if_pos rfl] at hq
        clear Hq1
        obtain ⟨of, Hof⟩ : ∃ of, Hid (of = ((({ k with cell := c', m := m' } : DevM).trip 80).leave 5).none) := ⟨_, Lib.hid rfl⟩
        have Hf : Hid (q = (_, of, _)) := Lib.hid (by rw [Hof.out]; exact hq)
        clear hq
        have hnn := fun G W hW => rdNone_any B b mb ((({ k with cell := c', m := m' } : DevM).trip 80).leave 5) G W hW ((hgi.trip 80).leave 5 (by omega))
        rw [← Hof.out] at hnn
        go_wp2_with fail
        refine (rdLatch_any B b mb _ _ 80 W1 (by decide) tN.is_ (by simp only; omega)).mono ?_
        rintro e W2 ⟨rfl, t2⟩
        have tQ := RDTo.trans hI0 tN t2
        go_wp2_with fail
        refine (rdLeave_any B b mb _ _ 5 W2 tQ.is_).mono ?_
        rintro e W3 ⟨rfl, t3⟩
        have tR := RDTo.trans hI0 tQ t3
        clear t2 tQ t3
        go_wp2_with fail
        refine (hnn _ _ tR.is_).mono ?_
        rintro e W4 ⟨v4, rfl, hown4, hb4⟩
        obtain ⟨A4, c4, rfl⟩ := own_slice hown4
        have hs4 := tR.keep.size
        go_wp2_with fail
        refine bodyPost_ret (v := .tuple #[.slice A4 of.length c4, .int .i64 80]) (by simp [results, Tryz.results99, go_sem]) rfl ?_
        rw [Hf.out]
        exact ⟨_, rfl, own_base hown4 hs4, RDAp.end_ hI0 tR hb4 hown4⟩
    | false =>
      obtain ⟨⟨κ1, A1, c1, vv1, val1, cb1, h1, hF1⟩, hlo1⟩ := id t0.is_
      have hc := h1.blk.cell
      unfold rdCells at hc
      have hs0 := t0.keep.size
      clear hbz hst h1
      by_cases hs : k.state = 2
      · have e1 : q = (k, k.offer, 130) := by rw [Hqs.out, if_neg (by simp), if_pos hs]
        rw [hs] at hc
        have hof := rdOffer_any B b mb k _ W0 t0.is_ hqi
        have Hf0 := Lib.hid e1
        clear e1
        obtain ⟨of, Hof⟩ : ∃ of, Hid (of = k.offer) := ⟨_, Lib.hid rfl⟩
        rw [← Hof.out] at hof
        have Hf : Hid (q = (k, of, 130)) := Lib.hid (by rw [Hof.out]; exact Hf0.out)
        go_wp2_with fail
        refine hof.mono ?_
        rintro e W3 ⟨v3, rfl, hown3, hb3⟩
        obtain ⟨A3, c3, rfl⟩ := own_slice hown3
        go_wp2_with fail
        refine bodyPost_ret (v := .tuple #[.slice A3 of.length c3, .int .i64 130]) (by simp [results, Tryz.results99, go_sem]) rfl ?_
        rw [Hf.out]
        exact ⟨_, rfl, own_base hown3 hs0, RDAp.end_ hI0 t0 hb3 hown3⟩
      · have e1 : q = (k, k.none, 130) := by rw [Hqs.out, if_neg (by simp), if_neg hs]
        have gs : (k.state == 2) = false := by simpa using hs
        have hof := rdNone_any B b mb k _ W0 t0.is_ hqi
        have Hf0 := Lib.hid e1
        clear e1
        obtain ⟨of, Hof⟩ : ∃ of, Hid (of = k.none) := ⟨_, Lib.hid rfl⟩
        rw [← Hof.out] at hof
        have Hf : Hid (q = (k, of, 130)) := Lib.hid (by rw [Hof.out]; exact Hf0.out)
        go_wp2_with fail
        refine hof.mono ?_
        rintro e W3 ⟨v3, rfl, hown3, hb3⟩
        obtain ⟨A3, c3, rfl⟩ := own_slice hown3
        go_wp2_with fail
        refine bodyPost_ret (v := .tuple #[.slice A3 of.length c3, .int .i64 130]) (by simp [results, Tryz.results99, go_sem]) rfl ?_
        rw [Hf.out]
        exact ⟨_, rfl, own_base hown3 hs0, RDAp.end_ hI0 t0 hb3 hown3⟩
end Go.Proofs.YtbkkfkbgcklkgaaGreat
/- The reference's device takes a unit. -/
namespace Go.Proofs.YtbkkfkbgcklkgaaGreat
open Go.RowKit
set_option maxHeartbeats 10000000
set_option maxRecDepth 100000

/-- Where the reference's device takes a unit u (its data in a slice A). -/
structure RDTake (B : Nat) (w : World) (b mb : Nat) (m : DevM) (F : Nat → Prop) (u : UnitM) (A : Option Addr) (Br : Nat) : Prop where
  is_ : RDIs B w b mb m F
  inv : m.Inv
  ok : u.Ok
  rd : Reads w Br 1 A u.data.length (u8c u.data)
  rb : Br ≤ w.heap.size
  d8 : u.data.length ≤ 8
  len : m.log.length < 1073741800
  af : ∀ ad, A = some ad → ¬ F ad.block
theorem rdS5 {W : World} {b mb cb Br c u0 : Nat} {m : DevM} {lg vv val : Value} {A : Option Addr} {x0 x1 x2 x3 x4 : Value} {data : List UInt8} (hb : Blk W b 120 (rdCells m mb cb lg vv val)) (hu : Blk W u0 68 #[x0, x1, x2, x3, x4, .slice A data.length c]) (hr : Reads W Br 1 A data.length (u8c data)) :
    W.cell? ⟨b, 0, none⟩ = some (.int .u32 m.p.code) ∧ W.cell? ⟨b, 1, none⟩ = some (.int .i64 m.p.out) ∧ W.cell? ⟨b, 2, none⟩ = some (.int .i64 m.p.inn) ∧ W.cell? ⟨b, 3, none⟩ = some (.int .i64 m.p.watch) ∧ W.cell? ⟨b, 4, none⟩ = some (.int .u32 m.p.count) ∧
      W.cell? ⟨u0, 5, none⟩ = some (.slice A data.length c) ∧ (convert 41 9 (.slice A data.length c)).run Tryz.prog W = .ok (.string ⟨data.toArray⟩) W :=
  ⟨(hb.cell 0).trans rfl, (hb.cell 1).trans rfl, (hb.cell 2).trans rfl, (hb.cell 3).trans rfl, (hb.cell 4).trans rfl, (hu.cell 5).trans rfl, conv_reads hr⟩
end Go.Proofs.YtbkkfkbgcklkgaaGreat
