/- gate.Trip and gate.Lift by their contracts. -/
import Derived.Test.YtdiogamcjihejaaGreatGate
namespace Go.Proofs.YtdiogamcjihejaaGreat
open Go.RowKit
set_option maxHeartbeats 4000000
set_option maxRecDepth 100000

theorem int64Add_any (a : Addr) (n : Int) (w : World) (hc : w.cell? a = some (.int .i64 n)) (hz : w.frozen? a = false) :
    Calls Tryz.prog 223 #[.pointer (some a), .int .i64 1] w fun e w' => e = .returned (.int .i64 (IntKind.i64.wrap (n + 1))) ∧ w' = w.setCell a (.int .i64 (IntKind.i64.wrap (n + 1))) := by
  have hadd := run_call_add (P := Tryz.prog) Tryz.func235 (by kernel_rfl) (by kernel_rfl) (by kernel_rfl) .i64 (by kernel_rfl) (x := n) (y := 1) (s := IntKind.i64.wrap (n + 1)) hc hz (by simp [go_sem])
  generalize IntKind.i64.wrap (n + 1) = m at *
  go_enter Tryz.func223, Tryz.ntmps223
  go_wp2
  go_ret
  exact ⟨rfl, rfl⟩
theorem int64Store_any (a : Addr) (n m : Int) (w : World) (hc : w.cell? a = some (.int .i64 n)) (hz : w.frozen? a = false) :
    Calls Tryz.prog 195 #[.pointer (some a), .int .i64 m] w fun e w' => e = .returned (.tuple #[]) ∧ w' = w.setCell a (.int .i64 m) := by
  have hst := run_call_store (P := Tryz.prog) Tryz.func226 (by kernel_rfl) (by kernel_rfl) (by kernel_rfl) (by kernel_rfl) (k := .i64) (y := m) hc hz
  go_enter Tryz.func195, Tryz.ntmps195
  go_wp2
  go_end0
  exact ⟨rfl, rfl⟩
theorem gateTrip_any (b o : Nat) (old code : Int) (w : World) (hcode : code ≠ 0) (h : GateIs w b o old) :
    Calls Tryz.prog 194 #[.pointer (some ⟨b, 0, none⟩), .int .i64 code] w fun e w' => e = .returned (.bool (old == 0)) ∧ GateIs w' b o (if old = 0 then code else old) ∧ Keep (fun x => x = b ∨ x = o) w w' := by
  have hbo := h.ne
  obtain ⟨⟨n, hb⟩, ⟨s, ho⟩⟩ := h
  have hmf : ∀ (fn : Fn) (first cap : Array Value) (w : World), (Instr.makeFunc fn first cap).run Tryz.prog w = .ok (.func fn first cap) w := fun _ _ _ _ => rfl
  have hb1 := (hb.alloc (.cells #[.pointer (some ⟨b, 0, none⟩)] 199)).alloc (.cells #[.int .i64 code] 25)
  have ho1 := (ho.alloc (.cells #[.pointer (some ⟨b, 0, none⟩)] 199)).alloc (.cells #[.int .i64 code] 25)
  have hp1 := (Blk.new w 199 #[.pointer (some ⟨b, 0, none⟩)]).alloc (.cells #[.int .i64 code] 25)
  have hq1 := Blk.new' (w.alloc (.cells #[.pointer (some ⟨b, 0, none⟩)] 199)) 25 #[.int .i64 code] (g := w.heap.size + 1) (by simp)
  have hlb := hb.lt
  have hlo := ho.lt
  have hcod : (code == 0) = false := by simpa using hcode
  have hk1 : Keep (fun x => x = b ∨ x = o) w ((w.alloc (.cells #[.pointer (some ⟨b, 0, none⟩)] 199)).alloc (.cells #[.int .i64 code] 25)) := ((Keep.refl _ w).alloc _).alloc _
  have hsz1 : ((w.alloc (.cells #[.pointer (some ⟨b, 0, none⟩)] 199)).alloc (.cells #[.int .i64 code] 25)).heap.size = w.heap.size + 2 := by simp
  have Hbo := Lib.hid hbo
  clear hbo hcode
  go_enter Tryz.func194, Tryz.ntmps194
  go_wp2_with fail
  refine (int64Add_any ⟨b, 2, none⟩ n _ ((hb1.cell 2).trans rfl) (hb1.frozen 2)).mono ?_
  rintro e W ⟨rfl, hW⟩
  have hb2 : Blk W b 251 #[.pointer (some ⟨o, 0, none⟩), .int .i64 old, .int .i64 (IntKind.i64.wrap (n + 1))] := by
    rw [hW]
    simpa using hb1.set_ 2 (.int .i64 (IntKind.i64.wrap (n + 1)))
  have ho2 : Blk W o 260 _ := hW ▸ ho1.far (p := ⟨b, 2, none⟩) (fun h => Hbo.out h.symm) (.int .i64 (IntKind.i64.wrap (n + 1)))
  have hp2 : Blk W w.heap.size 199 _ := hW ▸ hp1.far (p := ⟨b, 2, none⟩) (by simp; omega) (.int .i64 (IntKind.i64.wrap (n + 1)))
  have hq2 : Blk W (w.heap.size + 1) 25 _ := hW ▸ hq1.far (p := ⟨b, 2, none⟩) (by simp; omega) (.int .i64 (IntKind.i64.wrap (n + 1)))
  have hk2 : Keep (fun x => x = b ∨ x = o) w W := hW ▸ hk1.setCell (p := ⟨b, 2, none⟩) (fun _ => .inl rfl) (.int .i64 (IntKind.i64.wrap (n + 1)))
  have hsz2 : W.heap.size = w.heap.size + 2 := by rw [hW]; simp [World.setCell]
  clear hW hb1 ho1 hp1 hq1 hk1 hsz1 hb ho
  generalize IntKind.i64.wrap (n + 1) = m at *
  obtain ⟨p, hp⟩ : ∃ p, p = w.heap.size := ⟨_, rfl⟩
  have Hp := Lib.hid hp
  rw [← hp] at hp2 hq2 hsz2 ⊢
  clear hp
  have Hsz := Lib.hid hsz2
  clear hsz2
  have hc1 := hp2.cell
  have hc2 := hq2.cell
  have hc3 := hb2.cell
  have hc4 : ∀ o i, (W.alloc o).cell? ⟨p, i, none⟩ = (#[Value.pointer (some ⟨b, 0, none⟩)] : Array Value)[i]? := fun o i => (hp2.alloc o).cell i
  have hc5 : ∀ ob i, (W.alloc ob).cell? ⟨b, i, none⟩ = (#[Value.pointer (some ⟨o, 0, none⟩), .int .i64 old, .int .i64 m] : Array Value)[i]? := fun ob i => (hb2.alloc ob).cell i
  by_cases h0 : old = 0
  · subst h0
    go_wp2_with fail
    have hsz2 := Hsz.out
    have hpw := Hp.out
    have ho3 : Blk W o 260 #[.int .u32 0, .int .i32 0, s] := by simpa using ho2
    have d1 : ¬ b = W.heap.size := by omega
    have d2 : ¬ o = b := fun h => Hbo.out h.symm
    have d3 : ¬ o = W.heap.size := by omega
    have d4 : ¬ o = p + 1 := by omega
    have d5 : ¬ o = p := by omega
    refine (onceDo_first o (p + 1) p W.heap.size b code s (.pointer (some ⟨o, 0, none⟩)) (.int .i64 0) (.int .i64 m) 25 199 4 251 260 _ (ho3.alloc _) (hq2.alloc _) (hp2.alloc _) (Blk.new W 4 #[.bool false]) (hb2.alloc _) d1 d2 d3 d4 d5).mono ?_
    rintro e W3 ⟨rfl, hW⟩
    have hb3 : Blk W3 b 251 #[.pointer (some ⟨o, 0, none⟩), .int .i64 code, .int .i64 m] := by
      rw [hW]
      have := (((((hb2.alloc (.cells #[.bool false] 4)).far (p := ⟨o, 1, none⟩) (fun h => d2 h.symm) (.int .i32 1)).set_ 1 (.int .i64 code)).far (p := ⟨W.heap.size, 0, none⟩) d1 (.bool true)).drew.far (p := ⟨o, 0, none⟩) (fun h => d2 h.symm) (.int .u32 1)).far (p := ⟨o, 1, none⟩) (fun h => d2 h.symm) (.int .i32 0)
      simpa using this
    have ho4 : Blk W3 o 260 #[.int .u32 1, .int .i32 0, s] := by
      rw [hW]
      have := (((((ho3.alloc (.cells #[.bool false] 4)).set_ 1 (.int .i32 1)).far (p := ⟨b, 1, none⟩) d2 (.int .i64 code)).far (p := ⟨W.heap.size, 0, none⟩) d3 (.bool true)).drew.set_ 0 (.int .u32 1)).set_ 1 (.int .i32 0)
      simpa using this
    have hf3 : Blk W3 W.heap.size 4 #[.bool true] := by
      rw [hW]
      have := (((((Blk.new W 4 #[.bool false]).far (p := ⟨o, 1, none⟩) (fun h => d3 h.symm) (.int .i32 1)).far (p := ⟨b, 1, none⟩) (fun h => d1 h.symm) (.int .i64 code)).set_ 0 (.bool true)).drew.far (p := ⟨o, 0, none⟩) (fun h => d3 h.symm) (.int .u32 1)).far (p := ⟨o, 1, none⟩) (fun h => d3 h.symm) (.int .i32 0)
      simpa using this
    have hk3 : Keep (fun x => x = b ∨ x = o) w W3 := by
      rw [hW]
      exact ((((((hk2.alloc _).setCell (p := ⟨o, 1, none⟩) (fun _ => .inr rfl) _).setCell (p := ⟨b, 1, none⟩) (fun _ => .inl rfl) _).setCell (p := ⟨W.heap.size, 0, none⟩) (fun h => by simp at h; omega) _).drew).setCell (p := ⟨o, 0, none⟩) (fun _ => .inr rfl) _).setCell (p := ⟨o, 1, none⟩) (fun _ => .inr rfl) _
    clear hW hsz2 hpw
    have hcf := hf3.cell
    go_wp2_with fail
    go_ret
    exact ⟨rfl, ⟨⟨m, hb3⟩, ⟨s, by rw [if_neg (by simpa using hcod)]; exact ho4⟩⟩, hk3⟩
  · go_wp2_with fail
    have ho3 : Blk W o 260 #[.int .u32 1, .int .i32 0, s] := by rw [if_neg h0] at ho2; exact ho2
    refine (onceDo_done ⟨o, 0, none⟩ _ _ (((ho3.alloc _).cell 0).trans rfl)).mono ?_
    rintro e W3 ⟨rfl, rfl⟩
    go_wp2_with fail
    go_ret
    refine ⟨?_, ⟨⟨m, ?_⟩, ⟨s, ?_⟩⟩, hk2.alloc _⟩
    · have : (old == 0) = false := by simpa using h0
      rw [this]
      rfl
    · exact hb2.alloc _
    · rw [if_neg h0]
      exact ho3.alloc _
theorem gateLift_any (b o : Nat) (old : Int) (w : World) (h : GateIs w b o old) :
    Calls Tryz.prog 155 #[.pointer (some ⟨b, 0, none⟩)] w fun e w' => e = .returned (.int .i64 old) ∧ GateIs w' b w.heap.size 0 ∧ Keep (fun x => x = b) w w' ∧ w'.heap.size = w.heap.size + 1 := by
  obtain ⟨⟨n, hb⟩, _⟩ := h
  have hlb := hb.lt
  have hbc := hb.cell
  have hbf := hb.frozen
  have hbA : ∀ ob i, (w.alloc ob).cell? ⟨b, i, none⟩ = (#[Value.pointer (some ⟨o, 0, none⟩), .int .i64 old, .int .i64 n] : Array Value)[i]? := fun ob i => (hb.alloc ob).cell i
  have hbB : ∀ ob i, (w.alloc ob).frozen? ⟨b, i, none⟩ = false := fun ob i => (hb.alloc ob).frozen i
  go_enter Tryz.func155, Tryz.ntmps155
  go_wp2_with fail
  have hx : Blk (((w.setCell ⟨b, 0, none⟩ (.pointer (some ⟨w.heap.size, 0, none⟩))).setCell ⟨b, 1, none⟩ (.int .i64 0)).alloc (.cells #[.int .u32 0, .int .i32 0, .int .u32 0] 260)) b 251 #[.pointer (some ⟨w.heap.size, 0, none⟩), .int .i64 0, .int .i64 n] := by
    simpa using ((hb.set_ 0 (.pointer (some ⟨w.heap.size, 0, none⟩))).set_ 1 (.int .i64 0)).alloc (.cells #[.int .u32 0, .int .i32 0, .int .u32 0] 260)
  refine (int64Store_any ⟨b, 2, none⟩ n 0 _ ((hx.cell 2).trans rfl) (hx.frozen 2)).mono ?_
  rintro e W ⟨rfl, hW⟩
  have hy : Blk W b 251 #[.pointer (some ⟨w.heap.size, 0, none⟩), .int .i64 0, .int .i64 0] := by
    rw [hW]
    simpa using hx.set_ 2 (.int .i64 0)
  have hz : Blk W w.heap.size 260 #[.int .u32 0, .int .i32 0, .int .u32 0] := by
    rw [hW]
    exact (Blk.new' _ _ _ (by simp [World.setCell])).far (by simp; omega) _
  have hk : Keep (fun x => x = b) w W := by
    rw [hW]
    exact ((((Keep.refl (fun x => x = b) w).setCell (p := ⟨b, 0, none⟩) (fun _ => rfl) _).setCell (p := ⟨b, 1, none⟩) (fun _ => rfl) _).alloc _).setCell (p := ⟨b, 2, none⟩) (fun _ => rfl) _
  have hs : W.heap.size = w.heap.size + 1 := by rw [hW]; simp [World.setCell]
  clear hW
  have Hs := Lib.hid hs
  clear hs
  go_wp2_with fail
  go_ret
  exact ⟨rfl, ⟨⟨0, hy⟩, ⟨_, hz⟩⟩, hk, Hs.out⟩
end Go.Proofs.YtdiogamcjihejaaGreat
