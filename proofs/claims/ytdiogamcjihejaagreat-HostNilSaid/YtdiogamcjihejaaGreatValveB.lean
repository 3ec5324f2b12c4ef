/- passive's New, Take and Output by their contracts. -/
import Derived.Test.YtdiogamcjihejaaGreatValve
import Derived.Deep.OwnRows
namespace Go.Proofs.YtdiogamcjihejaaGreat
open Go.RowKit
set_option maxHeartbeats 4000000
set_option maxRecDepth 100000

theorem made_zero (n : Nat) : madeCells #[Value.int .u8 0] n = (u8c (List.replicate n 0)).toArray := by
  apply Array.ext
  · simp [madeCells, u8c]
  · intro i h1 h2
    have hm : i % 1 = 0 := Nat.mod_one i
    simp [madeCells, u8c, hm]
theorem Keep.growBelow {F : Nat → Prop} {w w' : World} (h : Below w.heap.size w w') : Keep F w w' := Keep.of_below h
theorem valveNew_any (n : Int) (w : World) (h1 : 1 ≤ n) (h8 : n ≤ 8) : Calls Tryz.prog 105 #[.int .i64 n] w fun e w' => ∃ v, e = .returned (.tuple #[.pointer (some ⟨v, 0, none⟩), .int .i64 0]) ∧ ValveIs w' v {} n (fun x => w.heap.size ≤ x ∧ x < w'.heap.size) ∧ w.heap.size ≤ v ∧ v < w'.heap.size ∧ Below w.heap.size w w' := by
  go_enter Tryz.func105, Tryz.ntmps105
  go_wp2_with fail
  refine (gateNew_any _).mono ?_
  rintro e w1 ⟨rfl, hg, hb, hs⟩
  have Hs := Lib.hid hs
  clear hs
  go_wp2_with fail
  refine bodyPost_ret (v := .tuple #[.pointer (some ⟨w1.heap.size, 0, none⟩), .int .i64 0]) (by simp [results, Tryz.results105, go_sem]) rfl ⟨_, rfl, ⟨w.heap.size + 1, w.heap.size, .slice none 0 0, ⟨Blk.new w1 _ _, hg.keep (S := fun _ => False) ((Keep.refl _ w1).alloc _) id id, rfl, ?_, ?_, ?_, fun x hx => by simp [Value.ownBlock] at hx⟩⟩, ?_, ?_, hb.alloc hb.size _⟩
  all_goals (have := Hs.out; simp; try omega)
theorem valveTake_any (v : Nat) (V : ValveM) (n : Int) (F : Nat → Prop) (A : Option Addr) (c B : Nat) (l : List UInt8) (w : World) (hV : ValveIs w v V n F) (hr : Reads w B 1 A l.length (u8c l)) (hB : B ≤ w.heap.size) (hn : n = (l.length : Int)) (h1 : 0 < l.length) (h8 : l.length ≤ 1000) :
    Calls Tryz.prog 187 #[.pointer (some ⟨v, 0, none⟩), .slice A l.length c] w fun e w' => e = .returned (.int .i64 0) ∧ ValveIs w' v (V.take l) n (grow F w w') ∧ Keep F w w' := by
  subst hn
  obtain ⟨ad, rfl⟩ : ∃ ad, A = some ad := by
    obtain ⟨ad, h, _⟩ := hr.2 h1
    exact ⟨ad, h⟩
  have h0 := hV
  obtain ⟨gb, o, val, hV⟩ := hV
  have hc := hV.blk.cell
  have hclone := fun w (hr : Reads w B 1 (some ad) l.length (u8c l)) (hB : B ≤ w.heap.size) => cloneByte_any (some ad) l.length c l B w (fun h => by cases h) hr hB (by omega)
  have same : V.take l = V → ValveIs w v (V.take l) l.length (grow F w w) := fun e => by rw [e]; exact h0.keep (S := fun _ => False) (Keep.refl _ _) (fun _ _ h => h) (fun _ h => .inl h)
  generalize hN : l.length = N at *
  clear hN
  cases hrun : V.running with
  | false =>
    have e1 : V.take l = V := by unfold ValveM.take; rw [hrun]; rfl
    have hs := same e1
    rw [hrun] at hc
    clear same e1
    go_enter Tryz.func187, Tryz.ntmps187
    go_wp2_with fail
    go_ret
    exact ⟨rfl, hs, Keep.refl _ _⟩
  | true =>
    rw [hrun] at hc
    cases hlat : (V.latched == 0) with
    | false =>
      have e1 : V.take l = V := by unfold ValveM.take; rw [hrun, hlat]; rfl
      have hs := same e1
      clear same e1
      go_enter Tryz.func187, Tryz.ntmps187
      go_wp2_with fail
      refine (gateCode_any gb o _ _ hV.gate).mono ?_
      rintro e w1 ⟨rfl, rfl⟩
      go_wp2_with fail
      go_ret
      exact ⟨rfl, hs, Keep.refl _ _⟩
    | true =>
      have e1 : V.take l = { V with value := some l } := by unfold ValveM.take; rw [hrun, hlat]; rfl
      rw [e1]
      clear same e1
      go_enter Tryz.func187, Tryz.ntmps187
      go_wp2_with fail
      refine (gateCode_any gb o _ _ hV.gate).mono ?_
      rintro e w1 ⟨rfl, rfl⟩
      go_wp2_with fail
      refine (hclone _ hr hB).mono ?_
      rintro e w2 ⟨v2, rfl, hown2, _, hsome, hb2⟩
      obtain ⟨A2, c2, rfl⟩ := own_slice hown2
      have hV2 := hV.keep (F' := F) (S := fun _ => False) (Keep.of_below hb2) (fun _ _ h => h) (fun _ h => h)
      have hc2 := hV2.blk.cell
      have hf2 := hV2.blk.frozen
      clear hc
      go_wp2_with fail
      go_ret
      have hne := hV2.ne
      have hsz := hb2.size
      have hlt := hown2.lt
      have hfar : (Value.slice A2 N c2).ownBlock ≠ some v := fun e => by have := (hlt v e).1; have := hV.blk.lt; omega
      have hk3 : Keep (fun x => x = v) w2 (w2.setCell ⟨v, 5, none⟩ (.slice A2 N c2)) := (Keep.refl (fun x => x = v) w2).setCell (p := ⟨v, 5, none⟩) (fun _ => rfl) _
      have hs3 : (w2.setCell ⟨v, 5, none⟩ (.slice A2 N c2)).heap.size = w2.heap.size := by simp [World.setCell]
      refine ⟨rfl, ⟨gb, o, .slice A2 N c2, ⟨?_, hV2.gate.far (p := ⟨v, 5, none⟩) (fun e => hne.1 e.symm) (fun e => hne.2 e.symm) _, ⟨?_, hsome (by simp)⟩, .inl hV.fv, .inl hV.fg, .inl hV.fo, fun x hx => .inr ?_⟩⟩, (Keep.of_below hb2).setCell (p := ⟨v, 5, none⟩) (fun _ => hV.fv) _⟩
      · have := hV2.blk.set_ 5 (.slice A2 N c2)
        rw [hrun] at this
        simpa [hrun] using this
      · have hlN : l.length = N := by have := hown2.1; rw [u8c_length] at this; omega
        rw [hlN]
        exact own_base (own_far hown2 hfar 5 _) (Nat.zero_le _)
      · rw [hs3]
        exact hlt x hx
theorem own_made (w : World) (N : Nat) (h : N ≤ 1000) : (w.alloc (.cells (madeCells #[.int .u8 0] N) 5)).ownsRow w.heap.size 5 1 (.slice (some ⟨w.heap.size, 0, none⟩) N N) N (u8c (List.replicate N 0)) := by
  rw [made_zero]
  have := own_full w (u8c (List.replicate N 0)).toArray 5 w.heap.size (Nat.le_refl _) (by simp [u8c, maxLen]; omega)
  simpa [u8c] using this
theorem valveOutput_any (v : Nat) (V : ValveM) (N : Nat) (F : Nat → Prop) (w : World) (hV : ValveIs w v V (N : Int) F) (hN : N ≤ 8) (hval : ∀ b, V.value = some b → b.length = N) :
    Calls Tryz.prog 85 #[.pointer (some ⟨v, 0, none⟩)] w fun e w' => ∃ x, e = .returned (.tuple #[x, .bool V.on]) ∧ w'.ownsRow w.heap.size 5 1 x N (u8c (V.output N)) ∧ (V.output N).length = N ∧ Below w.heap.size w w' := by
  obtain ⟨gb, o, val, hV⟩ := hV
  have hc := hV.blk.cell
  have hmk := run_make_row' (P := Tryz.prog) 22 5 (.int .u8 0) 1 Tryz.underlying22 byte_info rfl .i64 .i64 N (by omega) (by omega)
  have hq := fun (W : World) (a : Option Addr) (n c n' c' : Nat) => run_neq_slice_nil_any (P := Tryz.prog) W 22 5 a n c n' c' Tryz.underlying22
  have off : V.on = false → V.output N = List.replicate N 0 := fun e => by unfold ValveM.output; rw [e]; rfl
  cases hrun : V.running with
  | false =>
    have e1 : V.on = false := by unfold ValveM.on; rw [hrun]; rfl
    rw [off e1, e1]
    rw [hrun] at hc
    go_enter Tryz.func85, Tryz.ntmps85
    go_wp2_with fail
    refine bodyPost_ret (v := .tuple #[.slice (some ⟨w.heap.size, 0, none⟩) N N, .bool false]) (by simp [results, Tryz.results85, go_sem]) rfl ⟨_, rfl, own_made w N (by omega), by simp, (Below.refl _ _).alloc (Nat.le_refl _) _⟩
  | true =>
    rw [hrun] at hc
    cases hheld : V.held with
    | true =>
      have e1 : V.on = false := by unfold ValveM.on; rw [hheld, hrun]; rfl
      rw [off e1, e1]
      rw [hheld] at hc
      go_enter Tryz.func85, Tryz.ntmps85
      go_wp2_with fail
      refine bodyPost_ret (v := .tuple #[.slice (some ⟨w.heap.size, 0, none⟩) N N, .bool false]) (by simp [results, Tryz.results85, go_sem]) rfl ⟨_, rfl, own_made w N (by omega), by simp, (Below.refl _ _).alloc (Nat.le_refl _) _⟩
    | false =>
      rw [hheld] at hc
      have hvalue := hV.value
      cases hv : V.value with
      | none =>
        have e1 : V.on = false := by unfold ValveM.on; rw [hheld, hrun, hv]; rfl
        rw [off e1, e1]
        rw [hv] at hvalue
        unfold ValIs at hvalue
        simp only at hvalue
        subst hvalue
        go_enter Tryz.func85, Tryz.ntmps85
        go_wp2_with fail
        refine bodyPost_ret (v := .tuple #[.slice (some ⟨w.heap.size, 0, none⟩) N N, .bool false]) (by simp [results, Tryz.results85, go_sem]) rfl ⟨_, rfl, own_made w N (by omega), by simp, (Below.refl _ _).alloc (Nat.le_refl _) _⟩
      | some b =>
        have e1 : V.on = true := by unfold ValveM.on; rw [hheld, hrun, hv]; rfl
        have e2 : V.output N = b := by unfold ValveM.output; rw [e1, hv]; rfl
        rw [e1, e2]
        have hbl := hval b hv
        rw [hv] at hvalue
        obtain ⟨hown, g, hg⟩ := (hvalue : w.ownsRow 0 5 1 val b.length (u8c b) ∧ ∃ g, val.ownBlock = some g)
        obtain ⟨A, c, rfl⟩ := own_slice hown
        rw [hbl] at hown hg hc ⊢
        obtain ⟨ad, rfl⟩ : ∃ ad, A = some ad := by
          cases A with
          | none => simp [Value.ownBlock] at hg
          | some ad => exact ⟨ad, rfl⟩
        have Hbl := Lib.hid hbl
        clear hbl hval off hV e1 e2 hv
        go_enter Tryz.func85, Tryz.ntmps85
        go_wp2_with fail
        refine (cloneByte_any (some ad) N c b w.heap.size w (fun h => by cases h) (Reads.of_own hown) (Nat.le_refl _) (by omega)).mono ?_
        rintro e w2 ⟨v2, rfl, hown2, _, _, hb2⟩
        go_wp2_with fail
        refine bodyPost_ret (v := .tuple #[v2, .bool true]) (by simp [results, Tryz.results85, go_sem]) rfl ⟨_, rfl, hown2, by first | trivial | exact Hbl.out, hb2⟩
end Go.Proofs.YtdiogamcjihejaaGreat
