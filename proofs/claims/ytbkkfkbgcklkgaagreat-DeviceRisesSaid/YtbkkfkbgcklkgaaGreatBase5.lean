/- The base of the laws, part 5: contracts and plain lemmas, no statement. -/
import Derived.Test.YtbkkfkbgcklkgaaGreatBase4
import Derived.Deep.OwnRows
import Derived.Laws.IdiomRangeMap
/- gate.Trip and gate.Lift by their contracts. -/
namespace Go.Proofs.YtbkkfkbgcklkgaaGreat
open Go.RowKit
set_option maxHeartbeats 4000000
set_option maxRecDepth 100000

theorem int64Add_any (a : Addr) (n : Int) (w : World) (hc : w.cell? a = some (.int .i64 n)) (hz : w.frozen? a = false) :
    Calls Tryz.prog 174 #[.pointer (some a), .int .i64 1] w fun e w' => e = .returned (.int .i64 (IntKind.i64.wrap (n + 1))) ∧ w' = w.setCell a (.int .i64 (IntKind.i64.wrap (n + 1))) := by
  have hadd := run_call_add (P := Tryz.prog) Tryz.func189 (by kernel_rfl) (by kernel_rfl) (by kernel_rfl) .i64 (by kernel_rfl) (x := n) (y := 1) (s := IntKind.i64.wrap (n + 1)) hc hz (by simp [go_sem])
  generalize IntKind.i64.wrap (n + 1) = m at *
  go_enter Tryz.func174, Tryz.ntmps174
  go_wp2
  go_ret
  exact ⟨rfl, rfl⟩
theorem int64Store_any (a : Addr) (n m : Int) (w : World) (hc : w.cell? a = some (.int .i64 n)) (hz : w.frozen? a = false) :
    Calls Tryz.prog 155 #[.pointer (some a), .int .i64 m] w fun e w' => e = .returned (.tuple #[]) ∧ w' = w.setCell a (.int .i64 m) := by
  have hst := run_call_store (P := Tryz.prog) Tryz.func177 (by kernel_rfl) (by kernel_rfl) (by kernel_rfl) (by kernel_rfl) (k := .i64) (y := m) hc hz
  go_enter Tryz.func155, Tryz.ntmps155
  go_wp2
  go_end0
  exact ⟨rfl, rfl⟩
theorem gateTrip_any (b o : Nat) (old code : Int) (w : World) (hcode : code ≠ 0) (h : GateIs w b o old) :
    Calls Tryz.prog 154 #[.pointer (some ⟨b, 0, none⟩), .int .i64 code] w fun e w' => e = .returned (.bool (old == 0)) ∧ GateIs w' b o (if old = 0 then code else old) ∧ Keep (fun x => x = b ∨ x = o) w w' := by
  have hbo := h.ne
  obtain ⟨⟨n, hb⟩, ⟨s, ho⟩⟩ := h
  have hmf : ∀ (fn : Fn) (first cap : Array Value) (w : World), (Instr.makeFunc fn first cap).run Tryz.prog w = .ok (.func fn first cap) w := fun _ _ _ _ => rfl
  have hb1 := (hb.alloc (.cells #[.pointer (some ⟨b, 0, none⟩)] 186)).alloc (.cells #[.int .i64 code] 24)
  have ho1 := (ho.alloc (.cells #[.pointer (some ⟨b, 0, none⟩)] 186)).alloc (.cells #[.int .i64 code] 24)
  have hp1 := (Blk.new w 186 #[.pointer (some ⟨b, 0, none⟩)]).alloc (.cells #[.int .i64 code] 24)
  have hq1 := Blk.new' (w.alloc (.cells #[.pointer (some ⟨b, 0, none⟩)] 186)) 24 #[.int .i64 code] (g := w.heap.size + 1) (by simp)
  have hlb := hb.lt
  have hlo := ho.lt
  have hcod : (code == 0) = false := by simpa using hcode
  have hk1 : Keep (fun x => x = b ∨ x = o) w ((w.alloc (.cells #[.pointer (some ⟨b, 0, none⟩)] 186)).alloc (.cells #[.int .i64 code] 24)) := ((Keep.refl _ w).alloc _).alloc _
  have hsz1 : ((w.alloc (.cells #[.pointer (some ⟨b, 0, none⟩)] 186)).alloc (.cells #[.int .i64 code] 24)).heap.size = w.heap.size + 2 := by simp
  have Hbo := Lib.hid hbo
  clear hbo hcode
  go_enter Tryz.func154, Tryz.ntmps154
  go_wp2_with fail
  refine (int64Add_any ⟨b, 2, none⟩ n _ ((hb1.cell 2).trans rfl) (hb1.frozen 2)).mono ?_
  rintro e W ⟨rfl, hW⟩
  have hb2 : Blk W b 231 #[.pointer (some ⟨o, 0, none⟩), .int .i64 old, .int .i64 (IntKind.i64.wrap (n + 1))] := by
    rw [hW]
    simpa using hb1.set_ 2 (.int .i64 (IntKind.i64.wrap (n + 1)))
  have ho2 : Blk W o 246 _ := hW ▸ ho1.far (p := ⟨b, 2, none⟩) (fun h => Hbo.out h.symm) (.int .i64 (IntKind.i64.wrap (n + 1)))
  have hp2 : Blk W w.heap.size 186 _ := hW ▸ hp1.far (p := ⟨b, 2, none⟩) (by simp; omega) (.int .i64 (IntKind.i64.wrap (n + 1)))
  have hq2 : Blk W (w.heap.size + 1) 24 _ := hW ▸ hq1.far (p := ⟨b, 2, none⟩) (by simp; omega) (.int .i64 (IntKind.i64.wrap (n + 1)))
  have hk2 : Keep (fun x => x = b ∨ x = o) w W := hW ▸ hk1.setCell (p := ⟨b, 2, none⟩) (fun _ => .inl rfl) (.int .i64 (IntKind.i64.wrap (n + 1)))
  have hsz2 : W.heap.size = w.heap.size + 2 := by rw [hW]; simp [World.setCell]
  clear hW hb1 ho1 hp1 hq1 hk1 hsz1 hb ho
  generalize IntKind.i64.wrap (n + 1) = m at *
  obtain ⟨p, hp⟩ : ∃ p, p = w.heap.size := ⟨_, rfl⟩
  have Hp := Lib.hid hp
  rw [← hp] at hp2 hq2 hsz2 ⊢
  clear hp
  have Hsz := Lib.hid hsz2
  clear hsz2
  have hc1 := hp2.cell
  have hc2 := hq2.cell
  have hc3 := hb2.cell
  have hc4 : ∀ o i, (W.alloc o).cell? ⟨p, i, none⟩ = (#[Value.pointer (some ⟨b, 0, none⟩)] : Array Value)[i]? := fun o i => (hp2.alloc o).cell i
  have hc5 : ∀ ob i, (W.alloc ob).cell? ⟨b, i, none⟩ = (#[Value.pointer (some ⟨o, 0, none⟩), .int .i64 old, .int .i64 m] : Array Value)[i]? := fun ob i => (hb2.alloc ob).cell i
  by_cases h0 : old = 0
  · subst h0
    go_wp2_with fail
    have hsz2 := Hsz.out
    have hpw := Hp.out
    have ho3 : Blk W o 246 #[.int .u32 0, .int .i32 0, s] := by simpa using ho2
    have d1 : ¬ b = W.heap.size := by omega
    have d2 : ¬ o = b := fun h => Hbo.out h.symm
    have d3 : ¬ o = W.heap.size := by omega
    have d4 : ¬ o = p + 1 := by omega
    have d5 : ¬ o = p := by omega
    refine (onceDo_first o (p + 1) p W.heap.size b code s (.pointer (some ⟨o, 0, none⟩)) (.int .i64 0) (.int .i64 m) 24 186 4 231 246 _ (ho3.alloc _) (hq2.alloc _) (hp2.alloc _) (Blk.new W 4 #[.bool false]) (hb2.alloc _) d1 d2 d3 d4 d5).mono ?_
    rintro e W3 ⟨rfl, hW⟩
    have hb3 : Blk W3 b 231 #[.pointer (some ⟨o, 0, none⟩), .int .i64 code, .int .i64 m] := by
      rw [hW]
      have := (((((hb2.alloc (.cells #[.bool false] 4)).far (p := ⟨o, 1, none⟩) (fun h => d2 h.symm) (.int .i32 1)).set_ 1 (.int .i64 code)).far (p := ⟨W.heap.size, 0, none⟩) d1 (.bool true)).drew.far (p := ⟨o, 0, none⟩) (fun h => d2 h.symm) (.int .u32 1)).far (p := ⟨o, 1, none⟩) (fun h => d2 h.symm) (.int .i32 0)
      simpa using this
    have ho4 : Blk W3 o 246 #[.int .u32 1, .int .i32 0, s] := by
      rw [hW]
      have := (((((ho3.alloc (.cells #[.bool false] 4)).set_ 1 (.int .i32 1)).far (p := ⟨b, 1, none⟩) d2 (.int .i64 code)).far (p := ⟨W.heap.size, 0, none⟩) d3 (.bool true)).drew.set_ 0 (.int .u32 1)).set_ 1 (.int .i32 0)
      simpa using this
    have hf3 : Blk W3 W.heap.size 4 #[.bool true] := by
      rw [hW]
      have := (((((Blk.new W 4 #[.bool false]).far (p := ⟨o, 1, none⟩) (fun h => d3 h.symm) (.int .i32 1)).far (p := ⟨b, 1, none⟩) (fun h => d1 h.symm) (.int .i64 code)).set_ 0 (.bool true)).drew.far (p := ⟨o, 0, none⟩) (fun h => d3 h.symm) (.int .u32 1)).far (p := ⟨o, 1, none⟩) (fun h => d3 h.symm) (.int .i32 0)
      simpa using this
    have hk3 : Keep (fun x => x = b ∨ x = o) w W3 := by
      rw [hW]
      exact ((((((hk2.alloc _).setCell (p := ⟨o, 1, none⟩) (fun _ => .inr rfl) _).setCell (p := ⟨b, 1, none⟩) (fun _ => .inl rfl) _).setCell (p := ⟨W.heap.size, 0, none⟩) (fun h => by simp at h; omega) _).drew).setCell (p := ⟨o, 0, none⟩) (fun _ => .inr rfl) _).setCell (p := ⟨o, 1, none⟩) (fun _ => .inr rfl) _
    clear hW hsz2 hpw
    have hcf := hf3.cell
    go_wp2_with fail
    go_ret
    exact ⟨rfl, ⟨⟨m, hb3⟩, ⟨s, by rw [if_neg (by simpa using hcod)]; exact ho4⟩⟩, hk3⟩
  · go_wp2_with fail
    have ho3 : Blk W o 246 #[.int .u32 1, .int .i32 0, s] := by rw [if_neg h0] at ho2; exact ho2
    refine (onceDo_done ⟨o, 0, none⟩ _ _ (((ho3.alloc _).cell 0).trans rfl)).mono ?_
    rintro e W3 ⟨rfl, rfl⟩
    go_wp2_with fail
    go_ret
    refine ⟨?_, ⟨⟨m, ?_⟩, ⟨s, ?_⟩⟩, hk2.alloc _⟩
    · have : (old == 0) = false := by simpa using h0
      rw [this]
      rfl
    · exact hb2.alloc _
    · rw [if_neg h0]
      exact ho3.alloc _
theorem gateLift_any (b o : Nat) (old : Int) (w : World) (h : GateIs w b o old) :
    Calls Tryz.prog 123 #[.pointer (some ⟨b, 0, none⟩)] w fun e w' => e = .returned (.int .i64 old) ∧ GateIs w' b w.heap.size 0 ∧ Keep (fun x => x = b) w w' ∧ w'.heap.size = w.heap.size + 1 := by
  obtain ⟨⟨n, hb⟩, _⟩ := h
  have hlb := hb.lt
  have hbc := hb.cell
  have hbf := hb.frozen
  have hbA : ∀ ob i, (w.alloc ob).cell? ⟨b, i, none⟩ = (#[Value.pointer (some ⟨o, 0, none⟩), .int .i64 old, .int .i64 n] : Array Value)[i]? := fun ob i => (hb.alloc ob).cell i
  have hbB : ∀ ob i, (w.alloc ob).frozen? ⟨b, i, none⟩ = false := fun ob i => (hb.alloc ob).frozen i
  go_enter Tryz.func123, Tryz.ntmps123
  go_wp2_with fail
  have hx : Blk (((w.setCell ⟨b, 0, none⟩ (.pointer (some ⟨w.heap.size, 0, none⟩))).setCell ⟨b, 1, none⟩ (.int .i64 0)).alloc (.cells #[.int .u32 0, .int .i32 0, .int .u32 0] 246)) b 231 #[.pointer (some ⟨w.heap.size, 0, none⟩), .int .i64 0, .int .i64 n] := by
    simpa using ((hb.set_ 0 (.pointer (some ⟨w.heap.size, 0, none⟩))).set_ 1 (.int .i64 0)).alloc (.cells #[.int .u32 0, .int .i32 0, .int .u32 0] 246)
  refine (int64Store_any ⟨b, 2, none⟩ n 0 _ ((hx.cell 2).trans rfl) (hx.frozen 2)).mono ?_
  rintro e W ⟨rfl, hW⟩
  have hy : Blk W b 231 #[.pointer (some ⟨w.heap.size, 0, none⟩), .int .i64 0, .int .i64 0] := by
    rw [hW]
    simpa using hx.set_ 2 (.int .i64 0)
  have hz : Blk W w.heap.size 246 #[.int .u32 0, .int .i32 0, .int .u32 0] := by
    rw [hW]
    exact (Blk.new' _ _ _ (by simp [World.setCell])).far (by simp; omega) _
  have hk : Keep (fun x => x = b) w W := by
    rw [hW]
    exact ((((Keep.refl (fun x => x = b) w).setCell (p := ⟨b, 0, none⟩) (fun _ => rfl) _).setCell (p := ⟨b, 1, none⟩) (fun _ => rfl) _).alloc _).setCell (p := ⟨b, 2, none⟩) (fun _ => rfl) _
  have hs : W.heap.size = w.heap.size + 1 := by rw [hW]; simp [World.setCell]
  clear hW
  have Hs := Lib.hid hs
  clear hs
  go_wp2_with fail
  go_ret
  exact ⟨rfl, ⟨⟨0, hy⟩, ⟨_, hz⟩⟩, hk, Hs.out⟩
end Go.Proofs.YtbkkfkbgcklkgaaGreat
/- passive's valve by its contracts. -/
namespace Go.Proofs.YtbkkfkbgcklkgaaGreat
open Go.RowKit
set_option maxHeartbeats 4000000
set_option maxRecDepth 100000

theorem GateIs.far {w : World} {b o : Nat} {code : Int} (h : GateIs w b o code) {p : Addr} (hb : b ≠ p.block) (ho : o ≠ p.block) (u : Value) : GateIs (w.setCell p u) b o code := by
  obtain ⟨⟨n, h1⟩, ⟨s, h2⟩⟩ := h
  exact ⟨⟨n, h1.far hb u⟩, ⟨s, h2.far ho u⟩⟩
/-- What the valve's value cell holds. -/
def ValIs (w : World) (val : Value) (x : Option (List UInt8)) : Prop :=
  match x with
  | none => val = .slice none 0 0
  | some b => w.ownsRow 0 5 1 val b.length (u8c b) ∧ ∃ g, val.ownBlock = some g
/-- A valve at block v, its gate gb, its Once o, its value val. -/
structure ValveAt (w : World) (v : Nat) (V : ValveM) (n : Int) (F : Nat → Prop) (gb o : Nat) (val : Value) : Prop where
  blk : Blk w v 188 #[.int .i64 n, .pointer (some ⟨gb, 0, none⟩), .bool V.running, .bool V.fresh, .bool V.held, val]
  gate : GateIs w gb o V.latched
  value : ValIs w val V.value
  fv : F v
  fg : F gb
  fo : F o
  fx : ∀ x, val.ownBlock = some x → F x
def ValveIs (w : World) (v : Nat) (V : ValveM) (n : Int) (F : Nat → Prop) : Prop := ∃ gb o val, ValveAt w v V n F gb o val
/-- A footprint and what was made. -/
def grow (F : Nat → Prop) (w w' : World) (x : Nat) : Prop := F x ∨ (w.heap.size ≤ x ∧ x < w'.heap.size)
section
variable {w w' : World} {v gb o : Nat} {V : ValveM} {n : Int} {F F' S : Nat → Prop} {val : Value}
theorem ValveAt.ne (h : ValveAt w v V n F gb o val) : v ≠ gb ∧ v ≠ o := by
  obtain ⟨⟨m, h1⟩, ⟨s, h2⟩⟩ := h.gate
  exact ⟨h.blk.ne_ h1 (by decide), h.blk.ne_ h2 (by decide)⟩
theorem ValIs.keep {x : Option (List UInt8)} (h : ValIs w val x) (hk : Keep S w w') (hx : ∀ g, val.ownBlock = some g → ¬ S g) : ValIs w' val x := by
  cases x with
  | none => exact h
  | some b => exact ⟨ownsRow_keep h.1 hk hx, h.2⟩
theorem ValveAt.keep (h : ValveAt w v V n F gb o val) (hk : Keep S w w') (hS : ∀ x, F x → ¬ S x) (hF : ∀ x, F x → F' x) : ValveAt w' v V n F' gb o val where
  blk := h.blk.keep hk (hS _ h.fv)
  gate := h.gate.keep hk (hS _ h.fg) (hS _ h.fo)
  value := h.value.keep hk (fun g hg => hS _ (h.fx g hg))
  fv := hF _ h.fv
  fg := hF _ h.fg
  fo := hF _ h.fo
  fx := fun x hx => hF _ (h.fx x hx)
theorem ValveIs.keep (h : ValveIs w v V n F) (hk : Keep S w w') (hS : ∀ x, F x → ¬ S x) (hF : ∀ x, F x → F' x) : ValveIs w' v V n F' := by
  obtain ⟨gb, o, val, h⟩ := h
  exact ⟨gb, o, val, h.keep hk hS hF⟩
theorem ValveAt.val_ne (h : ValveAt w v V n F gb o val) : val.ownBlock ≠ some v ∧ val.ownBlock ≠ some gb ∧ val.ownBlock ≠ some o := by
  have hv := h.value
  obtain ⟨⟨m, h1⟩, ⟨s, h2⟩⟩ := h.gate
  unfold ValIs at hv
  split at hv
  · subst hv
    simp [Value.ownBlock]
  · exact ⟨own_ne hv.1 h.blk (by decide), own_ne hv.1 h1 (by decide), own_ne hv.1 h2 (by decide)⟩
end
/-- Latched, Code. -/
theorem valveLatched_any (v : Nat) (V : ValveM) (n : Int) (F : Nat → Prop) (w : World) (h : ValveIs w v V n F) : Calls Tryz.prog 56 #[.pointer (some ⟨v, 0, none⟩)] w fun e w' => e = .returned (.int .i64 V.latched) ∧ w' = w := by
  obtain ⟨gb, o, val, h⟩ := h
  have hc := h.blk.cell
  go_enter Tryz.func56, Tryz.ntmps56
  go_wp2_with fail
  refine (gateCode_any gb o _ _ h.gate).mono ?_
  rintro e w1 ⟨rfl, rfl⟩
  go_wp2_with fail
  go_ret
  exact ⟨rfl, rfl⟩
theorem valveRequest_any (v : Nat) (V : ValveM) (n : Int) (F : Nat → Prop) (w : World) (h : ValveIs w v V n F) : Calls Tryz.prog 57 #[.pointer (some ⟨v, 0, none⟩)] w fun e w' => e = .returned (.bool V.request) ∧ w' = w := by
  obtain ⟨gb, o, val, h⟩ := h
  have hc := h.blk.cell
  have hg := h.gate
  obtain ⟨running, held, fresh, latched, value⟩ := V
  simp only at hc hg
  clear h
  cases running with
  | false =>
    go_enter Tryz.func57, Tryz.ntmps57
    go_wp2_with fail
    go_ret
    exact ⟨rfl, rfl⟩
  | true =>
    cases fresh with
    | false =>
      go_enter Tryz.func57, Tryz.ntmps57
      go_wp2_with fail
      go_ret
      exact ⟨rfl, rfl⟩
    | true =>
      go_enter Tryz.func57, Tryz.ntmps57
      go_wp2_with fail
      refine (gateCode_any gb o _ _ hg).mono ?_
      rintro e w1 ⟨rfl, rfl⟩
      go_wp2_with fail
      go_ret
      exact ⟨rfl, rfl⟩
theorem valveRun_any (v : Nat) (V : ValveM) (n : Int) (F : Nat → Prop) (on : Bool) (w : World) (h : ValveIs w v V n F) : Calls Tryz.prog 167 #[.pointer (some ⟨v, 0, none⟩), .bool on] w fun e w' => e = .returned (.tuple #[]) ∧ ValveIs w' v (V.run on) n F ∧ Keep F w w' ∧ w'.heap.size = w.heap.size := by
  obtain ⟨gb, o, val, h⟩ := h
  have hc := h.blk.cell
  have hf := h.blk.frozen
  by_cases he : V.running = on
  · have e1 : V.run on = V := by unfold ValveM.run; rw [if_pos he]
    rw [e1]
    have hq : ∀ W, (binOp .neq 4 (.bool V.running) (.bool on)).run Tryz.prog W = .ok (.bool false) W := by
      rw [he]
      cases on <;> exact fun _ => by kernel_rfl
    go_enter Tryz.func167, Tryz.ntmps167
    go_wp2_with fail
    go_end0
    exact ⟨rfl, ⟨gb, o, val, h⟩, Keep.refl _ _, rfl⟩
  · have e1 : V.run on = { V with running := on, held := false, value := none } := by unfold ValveM.run; rw [if_neg he]
    rw [e1]
    have hq : ∀ W, (binOp .neq 4 (.bool V.running) (.bool on)).run Tryz.prog W = .ok (.bool true) W := by
      cases hr : V.running <;> cases on <;> first | exact absurd hr he | exact fun _ => by kernel_rfl
    have hne := h.ne
    have hb := h.blk
    have hg := h.gate
    have hfv := h.fv
    have hfg := h.fg
    have hfo := h.fo
    clear h e1
    generalize V.running = ru at *
    generalize V.fresh = fr at *
    generalize V.held = he2 at *
    clear he
    go_enter Tryz.func167, Tryz.ntmps167
    go_wp2_with fail
    go_end0
    refine ⟨rfl, ⟨gb, o, .slice none 0 0, ⟨?_, ((hg.far (p := ⟨v, 2, none⟩) (fun h => hne.1 h.symm) (fun h => hne.2 h.symm) _).far (p := ⟨v, 5, none⟩) (fun h => hne.1 h.symm) (fun h => hne.2 h.symm) _).far (p := ⟨v, 4, none⟩) (fun h => hne.1 h.symm) (fun h => hne.2 h.symm) _, rfl, hfv, hfg, hfo, fun x hx => by simp [Value.ownBlock] at hx⟩⟩, (((Keep.refl _ w).setCell (p := ⟨v, 2, none⟩) (fun _ => hfv) _).setCell (p := ⟨v, 5, none⟩) (fun _ => hfv) _).setCell (p := ⟨v, 4, none⟩) (fun _ => hfv) _, by simp [World.setCell]⟩
    simpa using ((hb.set_ 2 (.bool on)).set_ 5 (.slice none 0 0)).set_ 4 (.bool false)
theorem valveFresh_any (v : Nat) (V : ValveM) (n : Int) (F : Nat → Prop) (w : World) (h : ValveIs w v V n F) : Calls Tryz.prog 188 #[.pointer (some ⟨v, 0, none⟩)] w fun e w' => e = .returned (.tuple #[]) ∧ ValveIs w' v V.come n F ∧ Keep F w w' ∧ w'.heap.size = w.heap.size := by
  obtain ⟨gb, o, val, h⟩ := h
  have hc := h.blk.cell
  have hf := h.blk.frozen
  have hne := h.ne
  have hvn := h.val_ne
  go_enter Tryz.func188, Tryz.ntmps188
  go_wp2_with fail
  refine (gateCode_any gb o _ _ h.gate).mono ?_
  rintro e w1 ⟨rfl, rfl⟩
  go_wp2_with fail
  go_end0
  have hk : Keep (fun x => x = v) w1 (w1.setCell ⟨v, 3, none⟩ (.bool (V.latched != 0))) := (Keep.refl (fun x => x = v) w1).setCell (p := ⟨v, 3, none⟩) (fun _ => rfl) _
  refine ⟨rfl, ⟨gb, o, val, ⟨?_, h.gate.far (p := ⟨v, 3, none⟩) (fun h => hne.1 h.symm) (fun h => hne.2 h.symm) _, h.value.keep hk (fun g hg e => hvn.1 (e ▸ hg)), h.fv, h.fg, h.fo, h.fx⟩⟩, (Keep.refl F w1).setCell (p := ⟨v, 3, none⟩) (fun _ => h.fv) _, by simp [World.setCell]⟩
  simpa [ValveM.come] using h.blk.set_ 3 (.bool (V.latched != 0))
theorem valveHold_any (v : Nat) (V : ValveM) (n : Int) (F : Nat → Prop) (on : Bool) (w : World) (h : ValveIs w v V n F) : Calls Tryz.prog 168 #[.pointer (some ⟨v, 0, none⟩), .bool on] w fun e w' => e = .returned (.tuple #[]) ∧ ValveIs w' v (V.hold on) n F ∧ Keep F w w' ∧ w'.heap.size = w.heap.size := by
  obtain ⟨gb, o, val, h⟩ := h
  have hc := h.blk.cell
  have hf := h.blk.frozen
  have hne := h.ne
  have hvn := h.val_ne
  have key : ∀ b : Bool, b = (on && V.running) → ValveIs (w.setCell ⟨v, 4, none⟩ (.bool b)) v (V.hold on) n F ∧ Keep F w (w.setCell ⟨v, 4, none⟩ (.bool b)) ∧ (w.setCell ⟨v, 4, none⟩ (.bool b)).heap.size = w.heap.size := by
    intro b hb
    have hk : Keep (fun x => x = v) w (w.setCell ⟨v, 4, none⟩ (.bool b)) := (Keep.refl (fun x => x = v) w).setCell (p := ⟨v, 4, none⟩) (fun _ => rfl) _
    refine ⟨⟨gb, o, val, ⟨?_, h.gate.far (p := ⟨v, 4, none⟩) (fun h => hne.1 h.symm) (fun h => hne.2 h.symm) _, h.value.keep hk (fun g hg e => hvn.1 (e ▸ hg)), h.fv, h.fg, h.fo, h.fx⟩⟩, (Keep.refl F w).setCell (p := ⟨v, 4, none⟩) (fun _ => h.fv) _, by simp [World.setCell]⟩
    subst hb
    simpa [ValveM.hold] using h.blk.set_ 4 (.bool (on && V.running))
  cases on with
  | false =>
    go_enter Tryz.func168, Tryz.ntmps168
    go_wp2_with fail
    go_end0
    exact ⟨rfl, key false rfl⟩
  | true =>
    go_enter Tryz.func168, Tryz.ntmps168
    go_wp2_with fail
    go_end0
    exact ⟨rfl, key V.running (by simp)⟩
theorem valveTrip_any (v : Nat) (V : ValveM) (n : Int) (F : Nat → Prop) (code : Int) (w : World) (hcode : code ≠ 0) (h : ValveIs w v V n F) : Calls Tryz.prog 122 #[.pointer (some ⟨v, 0, none⟩), .int .i64 code] w fun e w' => e = .returned (.bool (V.trip code).2) ∧ ValveIs w' v (V.trip code).1 n F ∧ Keep F w w' := by
  obtain ⟨gb, o, val, h⟩ := h
  have hc := h.blk.cell
  have hf := h.blk.frozen
  have hne := h.ne
  have hcod : (code == 0) = false := by simpa using hcode
  have e1 : V.trip code = ({ V with value := none, fresh := false, latched := if V.latched = 0 then code else V.latched }, V.latched == 0) := by unfold ValveM.trip; rw [if_neg hcode]
  rw [e1]
  clear e1
  have htrip := fun w (hg : GateIs w gb o V.latched) => gateTrip_any gb o V.latched code w hcode hg
  generalize (if V.latched = 0 then code else V.latched) = nl at *
  go_enter Tryz.func122, Tryz.ntmps122
  go_wp2_with fail
  have hg2 := (h.gate.far (p := ⟨v, 5, none⟩) (fun h => hne.1 h.symm) (fun h => hne.2 h.symm) (.slice none 0 0)).far (p := ⟨v, 3, none⟩) (fun h => hne.1 h.symm) (fun h => hne.2 h.symm) (.bool false)
  have hb2 := (h.blk.set_ 5 (.slice none 0 0)).set_ 3 (.bool false)
  have hk2 := ((Keep.refl F w).setCell (p := ⟨v, 5, none⟩) (fun _ => h.fv) (.slice none 0 0)).setCell (p := ⟨v, 3, none⟩) (fun _ => h.fv) (.bool false)
  refine (htrip _ hg2).mono ?_
  rintro e w1 ⟨rfl, hg3, hk3⟩
  go_wp2_with fail
  go_ret
  refine ⟨rfl, ⟨gb, o, .slice none 0 0, ⟨?_, hg3, rfl, h.fv, h.fg, h.fo, fun x hx => by simp [Value.ownBlock] at hx⟩⟩, hk2.andThen hk3 (fun x _ hx => ?_)⟩
  · have := hb2.keep hk3 (fun hx => hx.elim hne.1 hne.2)
    simpa using this
  · rcases hx with h1 | h1
    · exact h1 ▸ h.fg
    · exact h1 ▸ h.fo
theorem valveAck_any (v : Nat) (V : ValveM) (n : Int) (F : Nat → Prop) (w : World) (hV : ValveIs w v V n F) : Calls Tryz.prog 77 #[.pointer (some ⟨v, 0, none⟩)] w fun e w' => e = .returned (.int .i64 (if V.request then 0 else 110)) ∧ ValveIs w' v V.ack n (grow F w w') ∧ Keep F w w' := by
  have hreq := fun w h => valveRequest_any v V n F w h
  cases hr : V.request with
  | false =>
    rw [hr] at hreq
    have e1 : V.ack = V := by unfold ValveM.ack; rw [hr]; rfl
    rw [e1]
    go_enter Tryz.func77, Tryz.ntmps77
    go_wp2_with fail
    refine (hreq _ hV).mono ?_
    rintro e w1 ⟨rfl, rfl⟩
    go_wp2_with fail
    go_ret
    exact ⟨rfl, hV.keep (S := fun _ => False) (Keep.refl _ _) (fun _ _ h => h) (fun _ h => .inl h), Keep.refl _ _⟩
  | true =>
    rw [hr] at hreq
    have e1 : V.ack = { V with latched := 0, fresh := false } := by unfold ValveM.ack; rw [hr]; rfl
    rw [e1]
    have h0 := hV
    obtain ⟨gb, o, val, hV⟩ := hV
    have hc := hV.blk.cell
    go_enter Tryz.func77, Tryz.ntmps77
    go_wp2_with fail
    refine (hreq _ h0).mono ?_
    rintro e w1 ⟨rfl, rfl⟩
    go_wp2_with fail
    refine (gateLift_any gb o _ _ hV.gate).mono ?_
    rintro e w2 ⟨rfl, hg2, hk2, hs2⟩
    have hb2 := hV.blk.keep hk2 hV.ne.1
    have hvg : w1.heap.size ≠ v := by have := hV.blk.lt; omega
    have hval2 := hV.value.keep hk2 (fun g hg e => hV.val_ne.2.1 (e ▸ hg))
    have Hs2 := Lib.hid hs2
    clear hc hs2
    have hc := hb2.cell
    have hf := hb2.frozen
    go_wp2_with fail
    go_ret
    have hs := Hs2.out
    have hk3 : Keep (fun x => x = v) w2 (w2.setCell ⟨v, 3, none⟩ (.bool false)) := (Keep.refl (fun x => x = v) w2).setCell (p := ⟨v, 3, none⟩) (fun _ => rfl) _
    refine ⟨rfl, ⟨gb, w1.heap.size, val, ⟨?_, hg2.far (p := ⟨v, 3, none⟩) (fun e => hV.ne.1 e.symm) hvg _, hval2.keep hk3 (fun g hg e => hV.val_ne.1 (e ▸ hg)), .inl hV.fv, .inl hV.fg, .inr ⟨Nat.le_refl _, by simp [World.setCell]; omega⟩, fun x hx => .inl (hV.fx x hx)⟩⟩, (hk2.mono (fun x _ hx => hx ▸ hV.fg)).setCell (p := ⟨v, 3, none⟩) (fun _ => hV.fv) _⟩
    simpa using hb2.set_ 3 (.bool false)
end Go.Proofs.YtbkkfkbgcklkgaaGreat
/- passive's New, Take and Output by their contracts. -/
namespace Go.Proofs.YtbkkfkbgcklkgaaGreat
open Go.RowKit
set_option maxHeartbeats 4000000
set_option maxRecDepth 100000

theorem made_zero (n : Nat) : madeCells #[Value.int .u8 0] n = (u8c (List.replicate n 0)).toArray := by
  apply Array.ext
  · simp [madeCells, u8c]
  · intro i h1 h2
    have hm : i % 1 = 0 := Nat.mod_one i
    simp [madeCells, u8c, hm]
theorem Keep.growBelow {F : Nat → Prop} {w w' : World} (h : Below w.heap.size w w') : Keep F w w' := Keep.of_below h
theorem valveNew_any (n : Int) (w : World) (h1 : 1 ≤ n) (h8 : n ≤ 8) : Calls Tryz.prog 87 #[.int .i64 n] w fun e w' => ∃ v, e = .returned (.tuple #[.pointer (some ⟨v, 0, none⟩), .int .i64 0]) ∧ ValveIs w' v {} n (fun x => w.heap.size ≤ x ∧ x < w'.heap.size) ∧ w.heap.size ≤ v ∧ v < w'.heap.size ∧ Below w.heap.size w w' := by
  go_enter Tryz.func87, Tryz.ntmps87
  go_wp2_with fail
  refine (gateNew_any _).mono ?_
  rintro e w1 ⟨rfl, hg, hb, hs⟩
  have Hs := Lib.hid hs
  clear hs
  go_wp2_with fail
  refine bodyPost_ret (v := .tuple #[.pointer (some ⟨w1.heap.size, 0, none⟩), .int .i64 0]) (by simp [results, Tryz.results87, go_sem]) rfl ⟨_, rfl, ⟨w.heap.size + 1, w.heap.size, .slice none 0 0, ⟨Blk.new w1 _ _, hg.keep (S := fun _ => False) ((Keep.refl _ w1).alloc _) id id, rfl, ?_, ?_, ?_, fun x hx => by simp [Value.ownBlock] at hx⟩⟩, ?_, ?_, hb.alloc hb.size _⟩
  all_goals (have := Hs.out; simp; try omega)
theorem valveTake_any (v : Nat) (V : ValveM) (n : Int) (F : Nat → Prop) (A : Option Addr) (c B : Nat) (l : List UInt8) (w : World) (hV : ValveIs w v V n F) (hr : Reads w B 1 A l.length (u8c l)) (hB : B ≤ w.heap.size) (hn : n = (l.length : Int)) (h1 : 0 < l.length) (h8 : l.length ≤ 1000) :
    Calls Tryz.prog 169 #[.pointer (some ⟨v, 0, none⟩), .slice A l.length c] w fun e w' => e = .returned (.int .i64 0) ∧ ValveIs w' v (V.take l) n (grow F w w') ∧ Keep F w w' := by
  subst hn
  obtain ⟨ad, rfl⟩ : ∃ ad, A = some ad := by
    obtain ⟨ad, h, _⟩ := hr.2 h1
    exact ⟨ad, h⟩
  have h0 := hV
  obtain ⟨gb, o, val, hV⟩ := hV
  have hc := hV.blk.cell
  have hclone := fun w (hr : Reads w B 1 (some ad) l.length (u8c l)) (hB : B ≤ w.heap.size) => cloneByte_any (some ad) l.length c l B w (fun h => by cases h) hr hB (by omega)
  have same : V.take l = V → ValveIs w v (V.take l) l.length (grow F w w) := fun e => by rw [e]; exact h0.keep (S := fun _ => False) (Keep.refl _ _) (fun _ _ h => h) (fun _ h => .inl h)
  generalize hN : l.length = N at *
  clear hN
  cases hrun : V.running with
  | false =>
    have e1 : V.take l = V := by unfold ValveM.take; rw [hrun]; rfl
    have hs := same e1
    rw [hrun] at hc
    clear same e1
    go_enter Tryz.func169, Tryz.ntmps169
    go_wp2_with fail
    go_ret
    exact ⟨rfl, hs, Keep.refl _ _⟩
  | true =>
    rw [hrun] at hc
    cases hlat : (V.latched == 0) with
    | false =>
      have e1 : V.take l = V := by unfold ValveM.take; rw [hrun, hlat]; rfl
      have hs := same e1
      clear same e1
      go_enter Tryz.func169, Tryz.ntmps169
      go_wp2_with fail
      refine (gateCode_any gb o _ _ hV.gate).mono ?_
      rintro e w1 ⟨rfl, rfl⟩
      go_wp2_with fail
      go_ret
      exact ⟨rfl, hs, Keep.refl _ _⟩
    | true =>
      have e1 : V.take l = { V with value := some l } := by unfold ValveM.take; rw [hrun, hlat]; rfl
      rw [e1]
      clear same e1
      go_enter Tryz.func169, Tryz.ntmps169
      go_wp2_with fail
      refine (gateCode_any gb o _ _ hV.gate).mono ?_
      rintro e w1 ⟨rfl, rfl⟩
      go_wp2_with fail
      refine (hclone _ hr hB).mono ?_
      rintro e w2 ⟨v2, rfl, hown2, _, hsome, hb2⟩
      obtain ⟨A2, c2, rfl⟩ := own_slice hown2
      have hV2 := hV.keep (F' := F) (S := fun _ => False) (Keep.of_below hb2) (fun _ _ h => h) (fun _ h => h)
      have hc2 := hV2.blk.cell
      have hf2 := hV2.blk.frozen
      clear hc
      go_wp2_with fail
      go_ret
      have hne := hV2.ne
      have hsz := hb2.size
      have hlt := hown2.lt
      have hfar : (Value.slice A2 N c2).ownBlock ≠ some v := fun e => by have := (hlt v e).1; have := hV.blk.lt; omega
      have hk3 : Keep (fun x => x = v) w2 (w2.setCell ⟨v, 5, none⟩ (.slice A2 N c2)) := (Keep.refl (fun x => x = v) w2).setCell (p := ⟨v, 5, none⟩) (fun _ => rfl) _
      have hs3 : (w2.setCell ⟨v, 5, none⟩ (.slice A2 N c2)).heap.size = w2.heap.size := by simp [World.setCell]
      refine ⟨rfl, ⟨gb, o, .slice A2 N c2, ⟨?_, hV2.gate.far (p := ⟨v, 5, none⟩) (fun e => hne.1 e.symm) (fun e => hne.2 e.symm) _, ⟨?_, hsome (by simp)⟩, .inl hV.fv, .inl hV.fg, .inl hV.fo, fun x hx => .inr ?_⟩⟩, (Keep.of_below hb2).setCell (p := ⟨v, 5, none⟩) (fun _ => hV.fv) _⟩
      · have := hV2.blk.set_ 5 (.slice A2 N c2)
        rw [hrun] at this
        simpa [hrun] using this
      · have hlN : l.length = N := by have := hown2.1; rw [u8c_length] at this; omega
        rw [hlN]
        exact own_base (own_far hown2 hfar 5 _) (Nat.zero_le _)
      · rw [hs3]
        exact hlt x hx
theorem own_made (w : World) (N : Nat) (h : N ≤ 1000) : (w.alloc (.cells (madeCells #[.int .u8 0] N) 5)).ownsRow w.heap.size 5 1 (.slice (some ⟨w.heap.size, 0, none⟩) N N) N (u8c (List.replicate N 0)) := by
  rw [made_zero]
  have := own_full w (u8c (List.replicate N 0)).toArray 5 w.heap.size (Nat.le_refl _) (by simp [u8c, maxLen]; omega)
  simpa [u8c] using this
theorem valveOutput_any (v : Nat) (V : ValveM) (N : Nat) (F : Nat → Prop) (w : World) (hV : ValveIs w v V (N : Int) F) (hN : N ≤ 8) (hval : ∀ b, V.value = some b → b.length = N) :
    Calls Tryz.prog 54 #[.pointer (some ⟨v, 0, none⟩)] w fun e w' => ∃ x, e = .returned (.tuple #[x, .bool V.on]) ∧ w'.ownsRow w.heap.size 5 1 x N (u8c (V.output N)) ∧ (V.output N).length = N ∧ Below w.heap.size w w' := by
  obtain ⟨gb, o, val, hV⟩ := hV
  have hc := hV.blk.cell
  have hmk := run_make_row' (P := Tryz.prog) 41 5 (.int .u8 0) 1 Tryz.underlying41 byte_info rfl .i64 .i64 N (by omega) (by omega)
  have hq := fun (W : World) (a : Option Addr) (n c n' c' : Nat) => run_neq_slice_nil_any (P := Tryz.prog) W 41 5 a n c n' c' Tryz.underlying41
  have off : V.on = false → V.output N = List.replicate N 0 := fun e => by unfold ValveM.output; rw [e]; rfl
  cases hrun : V.running with
  | false =>
    have e1 : V.on = false := by unfold ValveM.on; rw [hrun]; rfl
    rw [off e1, e1]
    rw [hrun] at hc
    go_enter Tryz.func54, Tryz.ntmps54
    go_wp2_with fail
    refine bodyPost_ret (v := .tuple #[.slice (some ⟨w.heap.size, 0, none⟩) N N, .bool false]) (by simp [results, Tryz.results54, go_sem]) rfl ⟨_, rfl, own_made w N (by omega), by simp, (Below.refl _ _).alloc (Nat.le_refl _) _⟩
  | true =>
    rw [hrun] at hc
    cases hheld : V.held with
    | true =>
      have e1 : V.on = false := by unfold ValveM.on; rw [hheld, hrun]; rfl
      rw [off e1, e1]
      rw [hheld] at hc
      go_enter Tryz.func54, Tryz.ntmps54
      go_wp2_with fail
      refine bodyPost_ret (v := .tuple #[.slice (some ⟨w.heap.size, 0, none⟩) N N, .bool false]) (by simp [results, Tryz.results54, go_sem]) rfl ⟨_, rfl, own_made w N (by omega), by simp, (Below.refl _ _).alloc (Nat.le_refl _) _⟩
    | false =>
      rw [hheld] at hc
      have hvalue := hV.value
      cases hv : V.value with
      | none =>
        have e1 : V.on = false := by unfold ValveM.on; rw [hheld, hrun, hv]; rfl
        rw [off e1, e1]
        rw [hv] at hvalue
        unfold ValIs at hvalue
        simp only at hvalue
        subst hvalue
        go_enter Tryz.func54, Tryz.ntmps54
        go_wp2_with fail
        refine bodyPost_ret (v := .tuple #[.slice (some ⟨w.heap.size, 0, none⟩) N N, .bool false]) (by simp [results, Tryz.results54, go_sem]) rfl ⟨_, rfl, own_made w N (by omega), by simp, (Below.refl _ _).alloc (Nat.le_refl _) _⟩
      | some b =>
        have e1 : V.on = true := by unfold ValveM.on; rw [hheld, hrun, hv]; rfl
        have e2 : V.output N = b := by unfold ValveM.output; rw [e1, hv]; rfl
        rw [e1, e2]
        have hbl := hval b hv
        rw [hv] at hvalue
        obtain ⟨hown, g, hg⟩ := (hvalue : w.ownsRow 0 5 1 val b.length (u8c b) ∧ ∃ g, val.ownBlock = some g)
        obtain ⟨A, c, rfl⟩ := own_slice hown
        rw [hbl] at hown hg hc ⊢
        obtain ⟨ad, rfl⟩ : ∃ ad, A = some ad := by
          cases A with
          | none => simp [Value.ownBlock] at hg
          | some ad => exact ⟨ad, rfl⟩
        have Hbl := Lib.hid hbl
        clear hbl hval off hV e1 e2 hv
        go_enter Tryz.func54, Tryz.ntmps54
        go_wp2_with fail
        refine (cloneByte_any (some ad) N c b w.heap.size w (fun h => by cases h) (Reads.of_own hown) (Nat.le_refl _) (by omega)).mono ?_
        rintro e w2 ⟨v2, rfl, hown2, _, _, hb2⟩
        go_wp2_with fail
        refine bodyPost_ret (v := .tuple #[v2, .bool true]) (by simp [results, Tryz.results54, go_sem]) rfl ⟨_, rfl, hown2, by first | trivial | exact Hbl.out, hb2⟩
end Go.Proofs.YtbkkfkbgcklkgaaGreat
/- watch's dog by its contracts. -/
namespace Go.Proofs.YtbkkfkbgcklkgaaGreat
open Go.RowKit
set_option maxHeartbeats 4000000
set_option maxRecDepth 100000

/-- A dog. -/
def DogIs (w : World) (d : Nat) (limit since : Int) : Prop := Blk w d 192 #[.int .i64 limit, .int .i32 since]
theorem int32Load_any (a : Addr) (n : Int) (w : World) (hc : w.cell? a = some (.int .i32 n)) :
    Calls Tryz.prog 109 #[.pointer (some a)] w fun e w' => e = .returned (.int .i32 n) ∧ w' = w := by
  have hl := run_call_load (P := Tryz.prog) Tryz.func149 (by kernel_rfl) (by kernel_rfl) (by kernel_rfl) .i32 (by kernel_rfl) hc
  go_enter Tryz.func109, Tryz.ntmps109
  go_wp2
  go_ret
  exact ⟨rfl, rfl⟩
theorem int32Store_any (a : Addr) (n m : Int) (w : World) (hc : w.cell? a = some (.int .i32 n)) (hz : w.frozen? a = false) :
    Calls Tryz.prog 197 #[.pointer (some a), .int .i32 m] w fun e w' => e = .returned (.tuple #[]) ∧ w' = w.setCell a (.int .i32 m) := by
  have hst := run_call_store (P := Tryz.prog) Tryz.func200 (by kernel_rfl) (by kernel_rfl) (by kernel_rfl) (by kernel_rfl) (k := .i32) (y := m) hc hz
  go_enter Tryz.func197, Tryz.ntmps197
  go_wp2
  go_end0
  exact ⟨rfl, rfl⟩
theorem int32Add_any (a : Addr) (n m s : Int) (w : World) (hc : w.cell? a = some (.int .i32 n)) (hz : w.frozen? a = false) (hs : IntKind.i32.wrap (n + m) = s) :
    Calls Tryz.prog 121 #[.pointer (some a), .int .i32 m] w fun e w' => e = .returned (.int .i32 s) ∧ w' = w.setCell a (.int .i32 s) := by
  have hadd := run_call_add (P := Tryz.prog) Tryz.func153 (by kernel_rfl) (by kernel_rfl) (by kernel_rfl) .i32 (by kernel_rfl) (x := n) (y := m) (s := s) hc hz (by simp [go_sem, hs])
  clear hs
  go_enter Tryz.func121, Tryz.ntmps121
  go_wp2
  go_ret
  exact ⟨rfl, rfl⟩
theorem dogNew_any (limit : Int) (w : World) (h1 : 1 ≤ limit) (h2 : limit ≤ 1048576) : Calls Tryz.prog 86 #[.int .i64 limit] w fun e w' => e = .returned (.tuple #[.pointer (some ⟨w.heap.size, 0, none⟩), .int .i64 0]) ∧ w' = w.alloc (.cells #[.int .i64 limit, .int .i32 0] 192) := by
  go_enter Tryz.func86, Tryz.ntmps86
  go_wp2_with fail
  refine bodyPost_ret (v := .tuple #[.pointer (some ⟨w.heap.size, 0, none⟩), .int .i64 0]) (by simp [results, Tryz.results86, go_sem]) rfl ⟨rfl, rfl⟩
theorem dogSince_any (d : Nat) (limit since : Int) (w : World) (hD : DogIs w d limit since) (hs : 0 ≤ since) (hs2 : since ≤ 1048576) : Calls Tryz.prog 55 #[.pointer (some ⟨d, 0, none⟩)] w fun e w' => e = .returned (.int .i64 since) ∧ w' = w := by
  have hw : IntKind.i64.wrap since = since := IntWalk.i64_in _ (by omega)
  go_enter Tryz.func55, Tryz.ntmps55
  go_wp2_with fail
  refine (int32Load_any ⟨d, 1, none⟩ since w ((hD.cell 1).trans rfl)).mono ?_
  rintro e w1 ⟨rfl, rfl⟩
  go_wp2_with fail
  go_ret
  exact ⟨rfl, rfl⟩
theorem dogFeed_any (d : Nat) (limit since : Int) (w : World) (hD : DogIs w d limit since) : Calls Tryz.prog 187 #[.pointer (some ⟨d, 0, none⟩)] w fun e w' => e = .returned (.tuple #[]) ∧ DogIs w' d limit 0 ∧ w' = w.setCell ⟨d, 1, none⟩ (.int .i32 0) := by
  go_enter Tryz.func187, Tryz.ntmps187
  go_wp2_with fail
  refine (int32Store_any ⟨d, 1, none⟩ since 0 w ((hD.cell 1).trans rfl) (hD.frozen 1)).mono ?_
  rintro e w1 ⟨rfl, rfl⟩
  go_wp2_with fail
  go_end0
  refine ⟨rfl, ?_, rfl⟩
  have := hD.set_ 1 (.int .i32 0)
  simpa [DogIs] using this
theorem dogExpired_any (d : Nat) (limit since : Int) (w : World) (hD : DogIs w d limit since) (hs : 0 ≤ since) (hs2 : since ≤ 1048576) : Calls Tryz.prog 120 #[.pointer (some ⟨d, 0, none⟩)] w fun e w' => e = .returned (.bool (decide (limit ≤ since))) ∧ ∃ k, w' = w.drewN k := by
  have hw : IntKind.i64.wrap since = since := IntWalk.i64_in _ (by omega)
  have hc := hD.cell
  have hl : ∀ k, Calls Tryz.prog 109 #[.pointer (some ⟨d, 1, none⟩)] (w.drewN k) fun e w' => e = .returned (.int .i32 since) ∧ w' = w.drewN k := fun k => int32Load_any ⟨d, 1, none⟩ since _ ((hD.drewN k).cell 1)
  go_enter Tryz.func120, Tryz.ntmps120
  go_wp2_with fail
  go_big_quiet ((go_at_call 109; exact Calls.quiet_of_same (hl _)))
  go_wp2_with fail
  go_ret
  exact ⟨rfl, _, rfl⟩
theorem dogTicks_neg (d : Nat) (n : Int) (w : World) (hn : n < 0) : Calls Tryz.prog 75 #[.pointer (some ⟨d, 0, none⟩), .int .i64 n] w fun e w' => e = .returned (.tuple #[.bool false, .int .i64 2]) ∧ w' = w := by
  go_enter Tryz.func75, Tryz.ntmps75
  go_wp2_with fail
  refine bodyPost_ret (v := .tuple #[.bool false, .int .i64 2]) (by simp [results, Tryz.results75, go_sem]) rfl ⟨rfl, rfl⟩
theorem dogTicks_any (d : Nat) (limit since n : Int) (w : World) (hD : DogIs w d limit since) (hs : 0 ≤ since) (hl : since ≤ limit) (hs2 : limit ≤ 1048576) (hn : 0 ≤ n) :
    Calls Tryz.prog 75 #[.pointer (some ⟨d, 0, none⟩), .int .i64 n] w fun e w' => e = .returned (.tuple #[.bool (ticksM limit since n).2, .int .i64 0]) ∧ DogIs w' d limit (ticksM limit since n).1 ∧ Keep (fun x => x = d) w w' ∧ w'.heap.size = w.heap.size := by
  have hx := dogExpired_any d limit since w hD hs (by omega)
  by_cases h1 : limit ≤ since
  · have e1 : ticksM limit since n = (since, false) := by unfold ticksM; rw [if_pos h1]
    rw [e1]
    rw [decide_eq_true h1] at hx
    clear e1
    go_enter Tryz.func75, Tryz.ntmps75
    go_wp2_with fail
    refine hx.mono ?_
    rintro e w1 ⟨rfl, k, rfl⟩
    go_wp2_with fail
    refine bodyPost_ret (v := .tuple #[.bool false, .int .i64 0]) (by simp [results, Tryz.results75, go_sem]) rfl ⟨rfl, hD.drewN k, (Keep.refl _ w).drewN k, rfl⟩
  · rw [decide_eq_false h1] at hx
    have hsub : IntKind.i64.wrap (limit - since) = limit - since := IntWalk.i64_in _ (by omega)
    obtain ⟨s', Hs⟩ : ∃ s', Hid (s' = ticksM limit since n) := ⟨_, Lib.hid rfl⟩
    rw [← Hs.out]
    go_enter Tryz.func75, Tryz.ntmps75
    go_wp2_with fail
    refine hx.mono ?_
    rintro e w1 ⟨rfl, k, hW⟩
    have hD1 : DogIs w1 d limit since := hW ▸ hD.drewN k
    have hk1 : Keep (fun x => x = d) w w1 := hW ▸ (Keep.refl _ w).drewN k
    have Hz1 : Hid (w1.heap.size = w.heap.size) := Lib.hid (by rw [hW]; rfl)
    clear hW hx hD
    have hc := hD1.cell
    have hq : ∀ j, Calls Tryz.prog 55 #[.pointer (some ⟨d, 0, none⟩)] (w1.drewN j) fun e w' => e = .returned (.int .i64 since) ∧ w' = w1.drewN j := fun j => dogSince_any d limit since _ (hD1.drewN j) hs (by omega)
    go_wp2_with fail
    go_big_quiet ((go_at_call 55; exact Calls.quiet_of_same (hq _)))
    have hD2 := hD1.drewN nq
    have hk2 := hk1.drewN nq
    have Hz2 : Hid ((w1.drewN nq).heap.size = w.heap.size) := Lib.hid Hz1.out
    generalize w1.drewN nq = W2 at *
    have hc2 := hD2.cell
    have hf2 := hD2.frozen
    clear hc hq hD1 hk1 Hz1
    rcases Int.lt_trichotomy n (limit - since) with h2 | h2 | h2
    · have hw32 : IntKind.i32.wrap n = n := IntWalk.i32_in _ (by omega)
      have hadd : IntKind.i32.wrap (since + n) = since + n := IntWalk.i32_in _ (by omega)
      have hn2 : ¬ limit - since ≤ n := by omega
      have Hs2 : Hid (s' = (since + n, false)) := Lib.hid (Hs.out.trans (by unfold ticksM; rw [if_neg (by omega), if_neg hn2]))
      clear Hs
      go_wp2_with fail
      refine (int32Add_any ⟨d, 1, none⟩ since n (since + n) W2 ((hD2.cell 1).trans rfl) (hD2.frozen 1) hadd).mono ?_
      rintro e W3 ⟨rfl, hW⟩
      have hD3 : DogIs W3 d limit (since + n) := by
        rw [hW]
        simpa [DogIs] using hD2.set_ 1 (.int .i32 (since + n))
      have hk3 : Keep (fun x => x = d) w W3 := hW ▸ hk2.setCell (p := ⟨d, 1, none⟩) (fun _ => rfl) _
      have Hz3 : Hid (W3.heap.size = w.heap.size) := Lib.hid (by rw [hW, ← Hz2.out]; simp [World.setCell])
      clear hW hc2 hf2 hD2 hk2 Hz2
      have e2 := Hs2.out
      subst e2
      go_wp2_with fail
      refine bodyPost_ret (v := .tuple #[.bool false, .int .i64 0]) (by simp [results, Tryz.results75, go_sem, h2]) rfl ⟨rfl, hD3, hk3, by first | trivial | exact Hz3.out⟩
    · subst h2
      have hw32 : IntKind.i32.wrap (limit - since) = limit - since := IntWalk.i32_in _ (by omega)
      have hadd : IntKind.i32.wrap (since + (limit - since)) = limit := by rw [show since + (limit - since) = limit by omega]; exact IntWalk.i32_in _ (by omega)
      have Hs2 : Hid (s' = (limit, true)) := Lib.hid (Hs.out.trans (by unfold ticksM; rw [if_neg (by omega), if_pos (Int.le_refl _)]))
      clear Hs
      go_wp2_with fail
      refine (int32Add_any ⟨d, 1, none⟩ since (limit - since) limit W2 ((hD2.cell 1).trans rfl) (hD2.frozen 1) hadd).mono ?_
      rintro e W3 ⟨rfl, hW⟩
      have hD3 : DogIs W3 d limit limit := by
        rw [hW]
        simpa [DogIs] using hD2.set_ 1 (.int .i32 limit)
      have hk3 : Keep (fun x => x = d) w W3 := hW ▸ hk2.setCell (p := ⟨d, 1, none⟩) (fun _ => rfl) _
      have Hz3 : Hid (W3.heap.size = w.heap.size) := Lib.hid (by rw [hW, ← Hz2.out]; simp [World.setCell])
      clear hW hc2 hf2 hD2 hk2 Hz2
      have e2 := Hs2.out
      subst e2
      go_wp2_with fail
      refine bodyPost_ret (v := .tuple #[.bool true, .int .i64 0]) (by simp [results, Tryz.results75, go_sem]) rfl ⟨rfl, hD3, hk3, by first | trivial | exact Hz3.out⟩
    · have hw32 : IntKind.i32.wrap (limit - since) = limit - since := IntWalk.i32_in _ (by omega)
      have hadd : IntKind.i32.wrap (since + (limit - since)) = limit := by rw [show since + (limit - since) = limit by omega]; exact IntWalk.i32_in _ (by omega)
      have Hs2 : Hid (s' = (limit, true)) := Lib.hid (Hs.out.trans (by unfold ticksM; rw [if_neg (by omega), if_pos (by omega)]))
      clear Hs
      go_wp2_with fail
      refine (int32Add_any ⟨d, 1, none⟩ since (limit - since) limit W2 ((hD2.cell 1).trans rfl) (hD2.frozen 1) hadd).mono ?_
      rintro e W3 ⟨rfl, hW⟩
      have hD3 : DogIs W3 d limit limit := by
        rw [hW]
        simpa [DogIs] using hD2.set_ 1 (.int .i32 limit)
      have hk3 : Keep (fun x => x = d) w W3 := hW ▸ hk2.setCell (p := ⟨d, 1, none⟩) (fun _ => rfl) _
      have Hz3 : Hid (W3.heap.size = w.heap.size) := Lib.hid (by rw [hW, ← Hz2.out]; simp [World.setCell])
      clear hW hc2 hf2 hD2 hk2 Hz2
      have e2 := Hs2.out
      subst e2
      go_wp2_with fail
      refine bodyPost_ret (v := .tuple #[.bool true, .int .i64 0]) (by simp [results, Tryz.results75, go_sem, Int.le_of_lt h2]) rfl ⟨rfl, hD3, hk3, by first | trivial | exact Hz3.out⟩
end Go.Proofs.YtbkkfkbgcklkgaaGreat
/- A map from int kinds to pointers that a call makes, only ever adds new keys to, looks up and ranges over. No program here. -/
namespace Go.Proofs.YtbkkfkbgcklkgaaGreat
open Go.RowKit

def ent (i : Nat) (p : Int × Nat) : MapEntry := ⟨.int .i64 p.1, .pointer (some ⟨p.2, 0, none⟩), i⟩
def entsK (l : List (Int × Nat)) (k : Nat) : List MapEntry := (l.zipIdx k).map fun x => ent x.2 x.1
def MapIs (w : World) (mp : Nat) (l : List (Int × Nat)) : Prop := w.heap[mp]? = some (.map (entsK l 0).toArray l.length)
def lk (l : List (Int × Nat)) (c : Int) : Option Nat := (l.find? fun p => p.1 == c).map (·.2)
def lkv (l : List (Int × Nat)) (c : Int) : Option Addr := (lk l c).map fun b => ⟨b, 0, none⟩

theorem lk_nil (c : Int) : lk [] c = none := rfl
theorem lk_cons (p : Int × Nat) (l : List (Int × Nat)) (c : Int) : lk (p :: l) c = if p.1 = c then some p.2 else lk l c := by
  unfold lk
  by_cases h : p.1 = c <;> simp [h]
theorem lk_snoc (l : List (Int × Nat)) (d : Int) (b : Nat) (c : Int) : lk (l ++ [(d, b)]) c = (lk l c).or (if d = c then some b else none) := by
  induction l with
  | nil => simp [lk_cons, lk_nil]
  | cons p r ih =>
    rw [List.cons_append, lk_cons, lk_cons, ih]
    by_cases h : p.1 = c <;> simp [h]
theorem lk_none {l : List (Int × Nat)} {c : Int} : lk l c = none ↔ c ∉ l.map Prod.fst := by
  induction l with
  | nil => simp [lk_nil]
  | cons p r ih =>
    rw [lk_cons]
    by_cases h : p.1 = c
    · simp [h]
    · simp only [h, if_false, ih, List.map_cons, List.mem_cons, not_or]
      exact ⟨fun x => ⟨fun e => h e.symm, x⟩, fun x => x.2⟩
theorem lk_mem {l : List (Int × Nat)} {c : Int} {b : Nat} (h : lk l c = some b) : (c, b) ∈ l := by
  induction l with
  | nil => simp [lk_nil] at h
  | cons p r ih =>
    rw [lk_cons] at h
    by_cases hp : p.1 = c
    · simp only [hp, if_true, Option.some.injEq] at h
      subst hp; subst h
      exact List.mem_cons_self
    · simp only [hp, if_false] at h
      exact List.mem_cons_of_mem _ (ih h)
theorem lk_of_mem {l : List (Int × Nat)} {c : Int} {b : Nat} (hn : (l.map Prod.fst).Nodup) (h : (c, b) ∈ l) : lk l c = some b := by
  induction l with
  | nil => cases h
  | cons p r ih =>
    rw [lk_cons]
    rw [List.map_cons, List.nodup_cons] at hn
    rcases List.mem_cons.1 h with rfl | hr
    · simp
    · have : p.1 ≠ c := fun e => hn.1 (e ▸ List.mem_map.2 ⟨(c, b), hr, rfl⟩)
      simp [this, ih hn.2 hr]

theorem findNow_ents (c : Int) : ∀ (l : List (Int × Nat)) (k : Nat), ∃ i, Instr.findNow (.int .i64) (.int .i64 c) (entsK l k) k = some ((lk l c).map fun b => (i, Value.pointer (some ⟨b, 0, none⟩)))
  | [], k => ⟨0, rfl⟩
  | p :: l, k => by
    obtain ⟨i, h⟩ := findNow_ents c l (k + 1)
    by_cases hp : p.1 = c
    · refine ⟨k, ?_⟩
      subst hp
      simp [entsK, List.zipIdx_cons, ent, Instr.findNow, Instr.sameNow, lk_cons]
    · refine ⟨i, ?_⟩
      have hp' : (c == p.1) = false := by simp; exact fun e => hp e.symm
      have : Instr.findNow (.int .i64) (.int .i64 c) (entsK (p :: l) k) k = Instr.findNow (.int .i64) (.int .i64 c) (entsK l (k + 1)) (k + 1) := by
        simp [entsK, List.zipIdx_cons, ent, Instr.findNow, Instr.sameNow, hp']
      rw [this, h, lk_cons, if_neg hp]

section
variable {P : Program} {w : World} {mp : Nat} {l : List (Int × Nat)} {mt kt et : TypeId} {s : Nat}
theorem run_findKey (hk : P.underlying kt = some (.int .i64)) (c : Int) (w : World) : ∃ i, (Instr.findKey kt (.int .i64 c) (entsK l 0)).run P w = .ok ((lk l c).map fun b => (i, Value.pointer (some ⟨b, 0, none⟩))) w := by
  obtain ⟨i, h⟩ := findNow_ents c l 0
  exact ⟨i, by simp [Instr.findKey, run_underlying hk, h, Result.andThen]⟩
theorem run_checkKey (hk : P.underlying kt = some (.int .i64)) (e : Bool) (n : Nat) (v : Value) (w : World) : (Instr.checkKey e (n + 1) kt v).run P w = .ok () w := by
  simp [Instr.checkKey, run_underlying hk, Result.andThen]
theorem MapIs.run_lookup (h : MapIs w mp l) (hm : P.underlying mt = some (.map kt et)) (hk : P.underlying kt = some (.int .i64)) (hz : (zeroValue et).run P w = .ok (.pointer none) w) (c : Int) :
    (Instr.lookup mt (.map (some mp)) (.int .i64 c) false).run P w = .ok (.pointer (lkv l c)) w := by
  obtain ⟨i, hf⟩ := run_findKey (l := l) hk c w
  have hc := fun e n => run_checkKey (P := P) hk e n (.int .i64 c) w
  unfold MapIs at h
  unfold lkv
  have h10 : (10000 : Nat) = 9999 + 1 := rfl
  cases hl : lk l c with
  | none => rw [hl] at hf; simp [Instr.lookup, run_underlying hm, getObj, Sem.run, h, h10, hc, hf, hz, Result.andThen]
  | some b => rw [hl] at hf; simp [Instr.lookup, run_underlying hm, getObj, Sem.run, h, h10, hc, hf, Result.andThen]
theorem entsK_snoc (l : List (Int × Nat)) (p : Int × Nat) (k : Nat) : entsK (l ++ [p]) k = entsK l k ++ [ent (k + l.length) p] := by
  simp [entsK, List.zipIdx_append]
theorem MapIs.run_update (h : MapIs w mp l) (hm : P.underlying mt = some (.map kt et)) (hk : P.underlying kt = some (.int .i64)) (c : Int) (b : Nat) (hn : lk l c = none) :
    (Instr.mapUpdate mt (.map (some mp)) (.int .i64 c) (.pointer (some ⟨b, 0, none⟩))).run P w = .ok () { w with heap := w.heap.setIfInBounds mp (.map (entsK (l ++ [(c, b)]) 0).toArray (l.length + 1)) } := by
  obtain ⟨i, hf⟩ := run_findKey (l := l) hk c w
  have hc := fun e n => run_checkKey (P := P) hk e n (.int .i64 c) w
  unfold MapIs at h
  have h10 : (10000 : Nat) = 9999 + 1 := rfl
  rw [hn] at hf
  simp [Instr.mapUpdate, run_underlying hm, getObj, setObj, Sem.run, h, h10, hc, hf, Result.andThen, entsK_snoc, ent]
theorem MapIs.lt (h : MapIs w mp l) : mp < w.heap.size := obj_lt h
theorem MapIs.updated (h : MapIs w mp l) (c : Int) (b : Nat) : MapIs { w with heap := w.heap.setIfInBounds mp (.map (entsK (l ++ [(c, b)]) 0).toArray (l.length + 1)) } mp (l ++ [(c, b)]) := by
  have := h.lt
  simp [MapIs, this]
theorem Blk.ne_map {g : Nat} {t : TypeId} {cs : Array Value} (hb : Blk w g t cs) (h : MapIs w mp l) : g ≠ mp := by
  rintro rfl
  unfold Blk at hb
  unfold MapIs at h
  rw [hb] at h
  cases h
theorem own_ne_map {base : Nat} {e : TypeId} {size n : Nat} {v : Value} {xs : List Value} (hr : w.ownsRow base e size v n xs) (h : MapIs w mp l) : ∀ g, v.ownBlock = some g → g ≠ mp := by
  rintro g hg rfl
  rcases hr.2 with ⟨rfl, _⟩ | ⟨g', cap, cur, rfl, _, hh, _⟩
  · simp [Value.ownBlock] at hg
  · simp only [Value.ownBlock, Option.some.injEq] at hg
    subst hg
    unfold MapIs at h
    rw [hh] at h
    cases h
theorem keep_setObj (w : World) (mp : Nat) (o : Obj) : Keep (fun k => k = mp) w { w with heap := w.heap.setIfInBounds mp o } :=
  ⟨rfl, rfl, rfl, by simp, fun k _ hn => by simp only [Array.getElem?_setIfInBounds]; rw [if_neg (fun e => hn e.symm)]⟩
end

/-- 'for k := range m' under way: the entries in the places 'seen' have been. -/
def IterAt (w : World) (r mp n : Nat) (seen : Array Nat) : Prop := w.heap[r]? = some (.mapIter (some mp) n seen n)

theorem born_ents (l : List (Int × Nat)) : ∀ (k : Nat), ∀ e ∈ entsK l k, k ≤ e.born ∧ e.born < k + l.length ∧ ∃ p, l[e.born - k]? = some p ∧ e = ent e.born p := by
  induction l with
  | nil => intro k e he; simp [entsK] at he
  | cons p r ih =>
    intro k e he
    have : entsK (p :: r) k = ent k p :: entsK r (k + 1) := by simp [entsK, List.zipIdx_cons]
    rw [this] at he
    rcases List.mem_cons.1 he with rfl | h
    · exact ⟨Nat.le_refl _, by simp [ent], p, by simp [ent], rfl⟩
    · obtain ⟨h1, h2, q, h3, h4⟩ := ih (k + 1) e h
      refine ⟨by omega, by simp only [List.length_cons]; omega, q, ?_, h4⟩
      obtain ⟨m, hm⟩ : ∃ m, e.born - k = m + 1 := ⟨e.born - k - 1, by omega⟩
      rw [hm, List.getElem?_cons_succ, ← h3]
      congr 1
      omega
theorem mem_ents (l : List (Int × Nat)) (i : Nat) (h : i < l.length) : ent i l[i] ∈ entsK l 0 := by
  unfold entsK
  exact List.mem_map.2 ⟨(l[i], i), List.mem_zipIdx_iff_getElem?.2 (by simp [h]), rfl⟩
theorem born_nodup (l : List (Int × Nat)) (k : Nat) : ((entsK l k).map (·.born)).Nodup := by
  have : (entsK l k).map (·.born) = List.range' k l.length := by
    unfold entsK
    rw [List.map_map]
    have : ((fun x : MapEntry => x.born) ∘ fun x : (Int × Nat) × Nat => ent x.2 x.1) = Prod.snd := by funext x; rfl
    rw [this, List.zipIdx_map_snd]
  rw [this]
  exact List.nodup_range'

section
variable {P : Program} {w : World} {mp r : Nat} {l : List (Int × Nat)} {mt kt et : TypeId} {seen : Array Nat}
theorem MapIs.run_range (h : MapIs w mp l) (hm : P.underlying mt = some (.map kt et)) :
    (Instr.range mt (.map (some mp))).run P w = .ok (.pointer (some ⟨w.heap.size, 0, none⟩)) (w.alloc (.mapIter (some mp) l.length #[] l.length)) := by
  unfold MapIs at h
  simp [Instr.range, run_underlying hm, getObj, Sem.run, h, Result.andThen]
theorem MapIs.run_next (h : MapIs w mp l) (hi : IterAt w r mp l.length seen) (ty : TypeId) :
    ((∀ i, i < l.length → i ∈ seen.toList) ∧ (Instr.next (.pointer (some ⟨r, 0, none⟩)) false ty).run P w = .ok (.tuple #[.bool false]) w) ∨
    ∃ i p w', l[i]? = some p ∧ i ∉ seen.toList ∧ (Instr.next (.pointer (some ⟨r, 0, none⟩)) false ty).run P w = .ok (.tuple #[.bool true, .int .i64 p.1, .pointer (some ⟨p.2, 0, none⟩)]) w' ∧
      IterAt w' r mp l.length (seen.push i) ∧ Keep (fun k => k = r) w w' ∧ w'.heap.size = w.heap.size ∧ MapIs w' mp l ∧
      (Instr.entry (.pointer (some ⟨r, 0, none⟩))).run P w' = .ok (.tuple #[.int .i64 p.1, .pointer (some ⟨p.2, 0, none⟩)]) w' := by
  unfold MapIs at h
  unfold IterAt at hi
  have hne : mp ≠ r := fun e => by subst e; rw [h] at hi; cases hi
  have hb := born_ents l 0
  have hall : (!seen.isEmpty && !(entsK l 0).toArray.isEmpty && (entsK l 0).toArray.all (fun x => decide (x.born ≥ l.length))) = false := by
    by_cases he : l = []
    · subst he; simp [entsK]
    · have h0 : 0 < l.length := by rcases l with _ | ⟨a, b⟩ <;> simp_all
      have hm := mem_ents l 0 h0
      have : (entsK l 0).toArray.all (fun x => decide (x.born ≥ l.length)) = false := by
        rw [Bool.eq_false_iff]
        intro ha
        rw [List.all_toArray, List.all_eq_true] at ha
        have := ha _ hm
        simp [ent] at this
        exact he this
      rw [this, Bool.and_false]
  have hold : ((entsK l 0).toArray.filter fun e => !seen.contains e.born).filter (fun x => decide (x.born < l.length)) = (entsK l 0).toArray.filter fun e => !seen.contains e.born := by
    rw [Array.filter_eq_self]
    intro e he
    have := (Array.mem_filter.1 he).1
    have := (hb e (by simpa using this)).2.1
    simpa using this
  have hnew : ((entsK l 0).toArray.filter fun e => !seen.contains e.born).filter (fun x => decide (x.born ≥ l.length)) = #[] := by
    rw [Array.filter_eq_empty_iff]
    intro e he
    have := (Array.mem_filter.1 he).1
    have := (hb e (by simpa using this)).2.1
    simpa using this
  generalize hL : (entsK l 0).toArray.filter (fun e => !seen.contains e.born) = left at hold hnew
  have hstart : (Instr.next (.pointer (some ⟨r, 0, none⟩)) false ty).run P w = (do
      match ((if left.isEmpty then #[none] else #[]) ++ (left ++ #[]).map some)[← choose (.mapNext ((if left.isEmpty then #[none] else #[]) ++ (left ++ #[]).map some).size)]? with
      | some (some e) =>
        setObj r (.mapIter (some mp) l.length (seen.push e.born) l.length)
        pure (.tuple #[.bool true, e.key, e.val])
      | some none => pure (.tuple #[.bool false])
      | none => stuck "Next: no such candidate" : Sem Value).run P w := by
    simp only [Instr.next, getObj, Sem.run_bind, Sem.run, hi, h, hall, hold, hnew, hL, Result.andThen_ok, Bool.false_eq_true, if_false]
    rfl
  rw [hstart]
  clear hstart hall hold hnew
  by_cases h0 : left = #[]
  · refine .inl ⟨fun i hil => ?_, ?_⟩
    · rw [h0, Array.filter_eq_empty_iff] at hL
      have := hL (ent i l[i]) (by simpa using mem_ents l i hil)
      simpa [ent] using this
    · subst h0
      simp [choose, Sem.run, Question.forced]
  · have hpos : 0 < left.size := by
      rcases Nat.eq_zero_or_pos left.size with hz | hz
      · exact absurd (Array.eq_empty_of_size_eq_zero hz) h0
      · exact hz
    have hemp : left.isEmpty = false := by
      rw [Bool.eq_false_iff]
      intro hx
      exact h0 (by simpa using hx)
    obtain ⟨k, n, hk, hch⟩ : ∃ k n, k < left.size ∧ ∀ (β : Type) (f : Nat → Sem β), ((choose (.mapNext left.size)) >>= f).run P w = (f k).run P (w.drewN n) := by
      by_cases hf : left.size ≤ 1
      · exact ⟨0, 0, hpos, fun β f => by simp [choose, Bind.bind, Sem.bind, Sem.run, Question.forced, hf, World.drewN]⟩
      · exact ⟨w.tape w.drawn (.mapNext left.size) % left.size, 1, Nat.mod_lt _ hpos, fun β f => by simp [choose, Bind.bind, Sem.bind, Sem.run, Question.forced, Question.cut, hf, World.drewN]⟩
    have hmem : left[k] ∈ (entsK l 0).toArray.filter (fun e => !seen.contains e.born) := by rw [hL]; exact Array.getElem_mem hk
    obtain ⟨hm1, hm2⟩ := Array.mem_filter.1 hmem
    obtain ⟨_, hbl, p, hp, he⟩ := hb left[k] (by simpa using hm1)
    refine .inr ⟨left[k].born, p, { w with heap := w.heap.setIfInBounds r (.mapIter (some mp) l.length (seen.push left[k].born) l.length), drawn := w.drawn + n }, by simpa using hp, by simpa using hm2, ?_, ?_, ?_, ?_, ?_, ?_⟩
    · simp only [hemp, Bool.false_eq_true, if_false, Array.append_empty, Array.empty_append, Array.size_map]
      rw [hch]
      have hg : (left.map some)[k]? = some (some left[k]) := by simp [hk]
      rw [hg]
      have e1 : left[k].key = .int .i64 p.1 := by rw [he]; rfl
      have e2 : left[k].val = .pointer (some ⟨p.2, 0, none⟩) := by rw [he]; rfl
      simp [setObj, Sem.run, hi, Result.andThen, e1, e2, World.drewN]
    · have := obj_lt hi
      simp [IterAt, this]
    · exact ⟨rfl, rfl, rfl, by simp, fun k' _ hn => by simp only [Array.getElem?_setIfInBounds]; rw [if_neg (fun e => hn e.symm)]⟩
    · simp
    · simp only [MapIs, Array.getElem?_setIfInBounds]
      rw [if_neg (fun e => hne e.symm)]
      exact h
    · have h1 : (w.heap.setIfInBounds r (.mapIter (some mp) l.length (seen.push left[k].born) l.length))[r]? = some (.mapIter (some mp) l.length (seen.push left[k].born) l.length) := by
        have := obj_lt hi
        simp [this]
      have h2 : (w.heap.setIfInBounds r (.mapIter (some mp) l.length (seen.push left[k].born) l.length))[mp]? = some (.map (entsK l 0).toArray l.length) := by
        rw [Array.getElem?_setIfInBounds, if_neg (fun e => hne e.symm)]
        exact h
      have h3 := find_born left[k] (entsK l 0) (born_nodup l 0) (by simpa using hm1)
      have e1 : left[k].key = .int .i64 p.1 := by rw [he]; rfl
      have e2 : left[k].val = .pointer (some ⟨p.2, 0, none⟩) := by rw [he]; rfl
      simp [Instr.entry, getObj, Sem.run, h1, h2, h3, Result.andThen, e1, e2]
end
end Go.Proofs.YtbkkfkbgcklkgaaGreat
