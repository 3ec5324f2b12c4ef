/- A memory of given bytes: Load, of the program and of the reference. -/
import Derived.Test.YtbkkfkbgcklkgaaGreatCDLaw
namespace Go.Proofs.YtbkkfkbgcklkgaaGreat
open Go.RowKit
set_option maxHeartbeats 10000000
set_option maxRecDepth 100000

def memOf (l : List UInt8) : MemM := ⟨l, false, false, 0, 0⟩
theorem memLoad_any (A : Option Addr) (n c Br : Nat) (l : List UInt8) (w : World) (hA : A = none → n = 0) (hr : Reads w Br 1 A n (u8c l)) (hB : Br ≤ w.heap.size) (hs : n ≤ 4096) :
    Calls Tryz.prog 40 #[.slice A n c] w fun e w' => ∃ mb, e = .returned (.tuple #[.pointer (some ⟨mb, 0, none⟩), .int .i64 0]) ∧ MemIs w' mb (memOf l) (fun x => w.heap.size ≤ x ∧ x < w'.heap.size) ∧ Below w.heap.size w w' := by
  have hl : l.length = n := by have := hr.1; simpa [u8c] using this
  have g1 : ¬ (4096 < (n : Int)) := by omega
  have hcl := cloneByte_any A n c l Br w hA hr hB (by omega)
  have Hl := Lib.hid hl
  clear hl hr
  go_enter Tryz.func40, Tryz.ntmps40
  go_wp2_with fail
  refine hcl.mono ?_
  rintro e w1 ⟨x, rfl, hown, _, _, hb⟩
  obtain ⟨Ax, cx, rfl⟩ := own_slice hown
  have hs1 := hb.size
  have hlt := hown.lt
  clear hcl
  go_wp2_with fail
  refine bodyPost_ret (v := .tuple #[.pointer (some ⟨w1.heap.size, 0, none⟩), .int .i64 0]) (by simp [results, Tryz.results40, go_sem]) rfl ⟨w1.heap.size, rfl, ⟨.slice Ax n cx, 0, ?_⟩, hb.alloc hs1 _⟩
  have hll := Hl.out
  subst hll
  exact {
    blk := Blk.new w1 _ _
    bytes := own_base (own_below hown ((Below.refl _ _).alloc (Nat.le_refl _) _)) (Nat.zero_le _)
    fb := ⟨hs1, by simp⟩
    fr := fun x hx => by have := hlt x hx; simp; omega
    len := hs
    left := by simp [memOf] }
theorem rmemLoad_any (A : Option Addr) (n c Br : Nat) (l : List UInt8) (w : World) (hr : Reads w Br 1 A n (u8c l)) (hB : Br ≤ w.heap.size) (hs : n ≤ 4096) :
    Calls Tryz.prog 41 #[.slice A n c] w fun e w' => ∃ mb, e = .returned (.tuple #[.pointer (some ⟨mb, 0, none⟩), .int .i64 0]) ∧ RMemIs w' mb (memOf l) (fun x => w.heap.size ≤ x ∧ x < w'.heap.size) ∧ Below w.heap.size w w' := by
  have hl : l.length = n := by have := hr.1; simpa [u8c] using this
  have g1 : ¬ (4096 < (n : Int)) := by omega
  obtain ⟨i0, hi0, hz0, hz1, hz2⟩ := info_parts byte_info
  have Hl := Lib.hid hl
  clear hl
  go_enter Tryz.func41, Tryz.ntmps41
  go_wp2_with (at_builtin; refine wpList_append_any _ rfl (.tmp 7) (.tmp 8) _ rfl w.heap.size 5 i0 _ 1 1 Tryz.underlying41 hi0 hz0 hz1 hz2 rfl (by omega) (.slice (some ⟨w.heap.size, 0, none⟩) 0 0) 0 [] rfl (World.ownsRow_made w #[] 0 (Nat.le_refl _) (by unfold maxLen; omega) rfl) Br A n c (u8c l) rfl (hr.alloc hB _) (u8c_one l) (by unfold maxLen; omega) (by omega) (by simp) ?_; intro v1 w1 hown1 hg1 hat1; rw [Nat.zero_add, List.nil_append] at hown1; obtain ⟨A1, c1, rfl⟩ := own_slice hown1)
  have hb : Below w.heap.size w w1 := ((Below.refl _ _).alloc (Nat.le_refl _) _).grown hg1 (by simp) (fun k hk => by simp [Value.ownBlock] at hk; omega)
  have hs1 := hb.size
  have hlt := hown1.lt
  refine bodyPost_ret (v := .tuple #[.pointer (some ⟨w1.heap.size, 0, none⟩), .int .i64 0]) (by simp [results, Tryz.results41, go_sem]) rfl ⟨w1.heap.size, rfl, ⟨.slice A1 n c1, 0, ?_⟩, hb.alloc hs1 _⟩
  have hll := Hl.out
  subst hll
  exact {
    blk := Blk.new w1 _ _
    bytes := own_base (own_below hown1 ((Below.refl _ _).alloc (Nat.le_refl _) _)) (Nat.zero_le _)
    fb := ⟨hs1, by simp⟩
    fr := fun x hx => by have := hlt x hx; simp; omega
    len := hs
    left := by simp [memOf] }
theorem memLoad_big (A : Option Addr) (n c : Nat) (w : World) (hs : 4096 < n) : Calls Tryz.prog 40 #[.slice A n c] w fun e w' => e = .returned (.tuple #[.pointer none, .int .i64 2]) ∧ w' = w := by
  have g1 : (4096 < (n : Int)) := by omega
  go_enter Tryz.func40, Tryz.ntmps40
  go_wp2_with fail
  exact bodyPost_ret (v := .tuple #[.pointer none, .int .i64 2]) (by simp [results, Tryz.results40, go_sem]) rfl ⟨rfl, rfl⟩
theorem rmemLoad_big (A : Option Addr) (n c : Nat) (w : World) (hs : 4096 < n) : Calls Tryz.prog 41 #[.slice A n c] w fun e w' => e = .returned (.tuple #[.pointer none, .int .i64 2]) ∧ w' = w := by
  have g1 : (4096 < (n : Int)) := by omega
  go_enter Tryz.func41, Tryz.ntmps41
  go_wp2_with fail
  exact bodyPost_ret (v := .tuple #[.pointer none, .int .i64 2]) (by simp [results, Tryz.results41, go_sem]) rfl ⟨rfl, rfl⟩
theorem mems_newM {w1 w2 w3 : World} {ma mb : Nat} {M1 M2 : MemM} (h1 : MemIs w2 ma M1 (fun x => w1.heap.size ≤ x ∧ x < w2.heap.size)) (hb2 : Below w1.heap.size w1 w2) (h2 : RMemIs w3 mb M2 (fun x => w2.heap.size ≤ x ∧ x < w3.heap.size)) (hb3 : Below w2.heap.size w2 w3) : ∃ F1 F2, Mems w1.heap.size w3 ma mb M1 M2 F1 F2 :=
  ⟨_, _, h1.below hb3, h2, fun x hx => by have := hb3.size; omega, fun x hx => by have := hb2.size; omega, fun x hx h => by omega⟩
theorem new_log {p : ParM} {m m' : MemM} {mx e : Int} {d : DevM} (h : DevM.new p m mx = (m', some d, e)) : d.log = [] := by
  unfold DevM.new at h
  split at h
  · simp at h
  · generalize openM m mx = r at h
    obtain ⟨m1, k, e1⟩ := r
    cases k with
    | none => simp at h
    | some k =>
      simp only [Prod.mk.injEq, Option.some.injEq] at h
      obtain ⟨_, rfl, _⟩ := h
      rfl
/-- Both devices over their memories. -/
theorem two_newM {B a ma b mb : Nat} {w w' : World} {m : DevM} {F1 F2 : Nat → Prop} (hi : m.Inv) (hI : DevIs B w a ma m F1) (hdj : ∀ x, F1 x → ¬ F2 x) (hR : RDIs B w' b mb m (grow F2 w w')) (hk : Keep F2 w w') : ∃ T, TwoD B w' a ma b mb m T := ⟨_, two_newD hi hI hdj hR hk⟩
end Go.Proofs.YtbkkfkbgcklkgaaGreat
