/- gate's functions by their contracts. -/
import Derived.Test.YtdiogamcjihejaaGreatOnce
import Derived.Test.YtdiogamcjihejaaGreatOwnKit
namespace Go.Proofs.YtdiogamcjihejaaGreat
open Go.RowKit
set_option maxHeartbeats 4000000
set_option maxRecDepth 100000

theorem gateClosure_any (pc pg pf gb : Nat) (code : Int) (x0 x1 x2 : Value) (t1 t2 t3 t4 : TypeId) (w : World) (hc : Blk w pc t1 #[.int .i64 code]) (hg : Blk w pg t2 #[.pointer (some ⟨gb, 0, none⟩)]) (hf : Blk w pf t3 #[.bool false])
    (hb : Blk w gb t4 #[x0, x1, x2]) (n1 : ¬ gb = pf) :
    Calls Tryz.prog 225 #[.pointer (some ⟨pc, 0, none⟩), .pointer (some ⟨pg, 0, none⟩), .pointer (some ⟨pf, 0, none⟩)] w fun e w' => e = .returned (.tuple #[]) ∧ w' = (w.setCell ⟨gb, 1, none⟩ (.int .i64 code)).setCell ⟨pf, 0, none⟩ (.bool true) := by
  have hcc := hc.cell
  have hgc := hg.cell
  have hfc := hf.cell
  have hff := hf.frozen
  have hbc := hb.cell
  have hbf := hb.frozen
  have n2 : ¬ pf = gb := fun h => n1 h.symm
  go_enter Tryz.func225, Tryz.ntmps225
  go_wp2_with fail
  go_end0
  exact ⟨rfl, rfl⟩
theorem onceSlow_any (ob pc pg pf gb : Nat) (code : Int) (s x0 x1 x2 : Value) (t1 t2 t3 t4 t5 : TypeId) (w : World) (ho : Blk w ob t5 #[.int .u32 0, .int .i32 0, s]) (hc : Blk w pc t1 #[.int .i64 code]) (hg : Blk w pg t2 #[.pointer (some ⟨gb, 0, none⟩)]) (hf : Blk w pf t3 #[.bool false])
    (hb : Blk w gb t4 #[x0, x1, x2]) (n1 : ¬ gb = pf) (n2 : ¬ ob = gb) (n3 : ¬ ob = pf) (n4 : ¬ ob = pc) (n5 : ¬ ob = pg) :
    Calls Tryz.prog 236 #[.pointer (some ⟨ob, 0, none⟩), .func (.func 225) #[] #[.pointer (some ⟨pc, 0, none⟩), .pointer (some ⟨pg, 0, none⟩), .pointer (some ⟨pf, 0, none⟩)]] w fun e w' => e = .returned (.tuple #[]) ∧
      w' = (((((w.setCell ⟨ob, 1, none⟩ (.int .i32 1)).setCell ⟨gb, 1, none⟩ (.int .i64 code)).setCell ⟨pf, 0, none⟩ (.bool true)).drew.setCell ⟨ob, 0, none⟩ (.int .u32 1)).setCell ⟨ob, 1, none⟩ (.int .i32 0)) := by
  have hol : Blk (w.setCell ⟨ob, 1, none⟩ (.int .i32 1)) ob t5 #[.int .u32 0, .int .i32 1, s] := by simpa using ho.set_ 1 (.int .i32 1)
  have h0 : (w.setCell ⟨ob, 1, none⟩ (.int .i32 1)).cell? ⟨ob, 0, none⟩ = some (.int .u32 0) := (hol.cell 0).trans rfl
  have hl := run_call_load (P := Tryz.prog) Tryz.func237 (by kernel_rfl) (by kernel_rfl) (by kernel_rfl) .u32 (by kernel_rfl) h0
  have hnot : ∀ (x : Bool) (w : World), (Op.unary .not (.bool x)).run Tryz.prog w = .ok (.bool (!x)) w := fun _ _ => rfl
  have hc1 := hc.far (p := ⟨ob, 1, none⟩) (fun h => n4 h.symm) (.int .i32 1)
  have hg1 := hg.far (p := ⟨ob, 1, none⟩) (fun h => n5 h.symm) (.int .i32 1)
  have hf1 := hf.far (p := ⟨ob, 1, none⟩) (fun h => n3 h.symm) (.int .i32 1)
  have hb1 := hb.far (p := ⟨ob, 1, none⟩) (fun h => n2 h.symm) (.int .i32 1)
  have hcl := gateClosure_any pc pg pf gb code x0 x1 x2 t1 t2 t3 t4 _ hc1 hg1 hf1 hb1 n1
  have ho2 := (hol.far (p := ⟨gb, 1, none⟩) n2 (.int .i64 code)).far (p := ⟨pf, 0, none⟩) n3 (.bool true)
  go_enter_defers Tryz.func236, Tryz.ntmps236
  go_wp2_with (go_at_call 242; refine (lock_free ⟨ob, 1, none⟩ _ ((ho.cell 1).trans rfl) (ho.frozen 1)).mono ?_; rintro e w' ⟨rfl, rfl⟩)
  go_wp2_with (go_at_call 227; go_in)
  refine hcl.mono ?_
  rintro e w' ⟨rfl, rfl⟩
  go_wp2_with fail
  refine leaves_cons (f := 174) (args := #[.pointer (some ⟨ob, 0, none⟩), .bool true]) (by simp) (by simp [go_sem]) ?_
  refine (boolStore_deferred ⟨ob, 0, none⟩ (.int .u32 0) .returning _ ((ho2.cell 0).trans rfl) (ho2.frozen 0)).mono ?_
  rintro e u' w'' ⟨rfl, rfl, rfl⟩
  have ho3 : Blk ((((w.setCell ⟨ob, 1, none⟩ (.int .i32 1)).setCell ⟨gb, 1, none⟩ (.int .i64 code)).setCell ⟨pf, 0, none⟩ (.bool true)).drew.setCell ⟨ob, 0, none⟩ (.int .u32 1)) ob t5 #[.int .u32 1, .int .i32 1, s] := by simpa using ho2.drew.set_ 0 (.int .u32 1)
  refine leaves_cons (f := 243) (args := #[.pointer (some ⟨ob, 1, none⟩)]) (by simp [settle]) (by simp [go_sem]) ?_
  refine (unlock_deferred ⟨ob, 1, none⟩ _ _ ((ho3.cell 1).trans rfl) (ho3.frozen 1)).mono ?_
  rintro e u' w'' ⟨rfl, rfl, rfl⟩
  simp [Leaves, settle, results, Tryz.results236]
theorem onceDo_first (ob pc pg pf gb : Nat) (code : Int) (s x0 x1 x2 : Value) (t1 t2 t3 t4 t5 : TypeId) (w : World) (ho : Blk w ob t5 #[.int .u32 0, .int .i32 0, s]) (hc : Blk w pc t1 #[.int .i64 code]) (hg : Blk w pg t2 #[.pointer (some ⟨gb, 0, none⟩)]) (hf : Blk w pf t3 #[.bool false])
    (hb : Blk w gb t4 #[x0, x1, x2]) (n1 : ¬ gb = pf) (n2 : ¬ ob = gb) (n3 : ¬ ob = pf) (n4 : ¬ ob = pc) (n5 : ¬ ob = pg) :
    Calls Tryz.prog 224 #[.pointer (some ⟨ob, 0, none⟩), .func (.func 225) #[] #[.pointer (some ⟨pc, 0, none⟩), .pointer (some ⟨pg, 0, none⟩), .pointer (some ⟨pf, 0, none⟩)]] w fun e w' => e = .returned (.tuple #[]) ∧
      w' = (((((w.setCell ⟨ob, 1, none⟩ (.int .i32 1)).setCell ⟨gb, 1, none⟩ (.int .i64 code)).setCell ⟨pf, 0, none⟩ (.bool true)).drew.setCell ⟨ob, 0, none⟩ (.int .u32 1)).setCell ⟨ob, 1, none⟩ (.int .i32 0)) := by
  have h0 : w.cell? ⟨ob, 0, none⟩ = some (.int .u32 0) := (ho.cell 0).trans rfl
  have hl := run_call_load (P := Tryz.prog) Tryz.func237 (by kernel_rfl) (by kernel_rfl) (by kernel_rfl) .u32 (by kernel_rfl) h0
  have hnot : ∀ (x : Bool) (w : World), (Op.unary .not (.bool x)).run Tryz.prog w = .ok (.bool (!x)) w := fun _ _ => rfl
  go_enter Tryz.func224, Tryz.ntmps224
  go_wp2_with (first | (go_at_call 236; refine (onceSlow_any ob pc pg pf gb code s x0 x1 x2 t1 t2 t3 t4 t5 _ ho hc hg hf hb n1 n2 n3 n4 n5).mono ?_; rintro e w' ⟨rfl, rfl⟩) | (go_at_call 227; go_in))
  go_end0
  exact ⟨rfl, rfl⟩

/-- A gate and its Once: blocks b and o; what is latched. -/
structure GateIs (w : World) (b o : Nat) (code : Int) : Prop where
  gate : ∃ n, Blk w b 251 #[.pointer (some ⟨o, 0, none⟩), .int .i64 code, .int .i64 n]
  once : ∃ s, Blk w o 260 #[.int .u32 (if code = 0 then 0 else 1), .int .i32 0, s]
theorem GateIs.ne {w : World} {b o : Nat} {code : Int} (h : GateIs w b o code) : b ≠ o := by
  obtain ⟨⟨n, h1⟩, ⟨s, h2⟩⟩ := h
  exact h1.ne_ h2 (by decide)
theorem GateIs.keep {w w' : World} {b o : Nat} {code : Int} {S : Nat → Prop} (h : GateIs w b o code) (hk : Keep S w w') (hb : ¬ S b) (ho : ¬ S o) : GateIs w' b o code := by
  obtain ⟨⟨n, h1⟩, ⟨s, h2⟩⟩ := h
  exact ⟨⟨n, h1.keep hk hb⟩, ⟨s, h2.keep hk ho⟩⟩
theorem gateNew_any (w : World) : Calls Tryz.prog 156 #[] w fun e w' => e = .returned (.pointer (some ⟨w.heap.size + 1, 0, none⟩)) ∧ GateIs w' (w.heap.size + 1) w.heap.size 0 ∧ Below w.heap.size w w' ∧ w'.heap.size = w.heap.size + 2 := by
  go_enter Tryz.func156, Tryz.ntmps156
  go_wp2_with fail
  go_ret
  refine ⟨rfl, ⟨⟨0, ?_⟩, ⟨.int .u32 0, ?_⟩⟩, ((Below.refl _ _).alloc (Nat.le_refl _) _).alloc (by simp) _, by simp⟩
  · exact Blk.new' _ _ _ (by simp)
  · exact (Blk.new w _ _).alloc _
theorem gateCode_any (b o : Nat) (code : Int) (w : World) (h : GateIs w b o code) : Calls Tryz.prog 146 #[.pointer (some ⟨b, 0, none⟩)] w fun e w' => e = .returned (.int .i64 code) ∧ w' = w := by
  obtain ⟨⟨n, h1⟩, _⟩ := h
  have hc := h1.cell
  go_enter Tryz.func146, Tryz.ntmps146
  go_wp2_with fail
  go_ret
  exact ⟨rfl, rfl⟩
end Go.Proofs.YtdiogamcjihejaaGreat
