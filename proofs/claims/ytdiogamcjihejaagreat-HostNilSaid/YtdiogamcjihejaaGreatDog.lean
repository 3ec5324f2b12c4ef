/- watch's dog by its contracts. -/
import Derived.Test.YtdiogamcjihejaaGreatGateB
import Derived.Test.YtdiogamcjihejaaGreatEndM
namespace Go.Proofs.YtdiogamcjihejaaGreat
open Go.RowKit
set_option maxHeartbeats 4000000
set_option maxRecDepth 100000

/-- A dog. -/
def DogIs (w : World) (d : Nat) (limit since : Int) : Prop := Blk w d 205 #[.int .i64 limit, .int .i32 since]
theorem int32Load_any (a : Addr) (n : Int) (w : World) (hc : w.cell? a = some (.int .i32 n)) :
    Calls Tryz.prog 145 #[.pointer (some a)] w fun e w' => e = .returned (.int .i32 n) ∧ w' = w := by
  have hl := run_call_load (P := Tryz.prog) Tryz.func192 (by kernel_rfl) (by kernel_rfl) (by kernel_rfl) .i32 (by kernel_rfl) hc
  go_enter Tryz.func145, Tryz.ntmps145
  go_wp2
  go_ret
  exact ⟨rfl, rfl⟩
theorem int32Store_any (a : Addr) (n m : Int) (w : World) (hc : w.cell? a = some (.int .i32 n)) (hz : w.frozen? a = false) :
    Calls Tryz.prog 234 #[.pointer (some a), .int .i32 m] w fun e w' => e = .returned (.tuple #[]) ∧ w' = w.setCell a (.int .i32 m) := by
  have hst := run_call_store (P := Tryz.prog) Tryz.func241 (by kernel_rfl) (by kernel_rfl) (by kernel_rfl) (by kernel_rfl) (k := .i32) (y := m) hc hz
  go_enter Tryz.func234, Tryz.ntmps234
  go_wp2
  go_end0
  exact ⟨rfl, rfl⟩
theorem int32Add_any (a : Addr) (n m s : Int) (w : World) (hc : w.cell? a = some (.int .i32 n)) (hz : w.frozen? a = false) (hs : IntKind.i32.wrap (n + m) = s) :
    Calls Tryz.prog 153 #[.pointer (some a), .int .i32 m] w fun e w' => e = .returned (.int .i32 s) ∧ w' = w.setCell a (.int .i32 s) := by
  have hadd := run_call_add (P := Tryz.prog) Tryz.func193 (by kernel_rfl) (by kernel_rfl) (by kernel_rfl) .i32 (by kernel_rfl) (x := n) (y := m) (s := s) hc hz (by simp [go_sem, hs])
  clear hs
  go_enter Tryz.func153, Tryz.ntmps153
  go_wp2
  go_ret
  exact ⟨rfl, rfl⟩
theorem dogNew_any (limit : Int) (w : World) (h1 : 1 ≤ limit) (h2 : limit ≤ 1048576) : Calls Tryz.prog 104 #[.int .i64 limit] w fun e w' => e = .returned (.tuple #[.pointer (some ⟨w.heap.size, 0, none⟩), .int .i64 0]) ∧ w' = w.alloc (.cells #[.int .i64 limit, .int .i32 0] 205) := by
  go_enter Tryz.func104, Tryz.ntmps104
  go_wp2_with fail
  refine bodyPost_ret (v := .tuple #[.pointer (some ⟨w.heap.size, 0, none⟩), .int .i64 0]) (by simp [results, Tryz.results104, go_sem]) rfl ⟨rfl, rfl⟩
theorem dogSince_any (d : Nat) (limit since : Int) (w : World) (hD : DogIs w d limit since) (hs : 0 ≤ since) (hs2 : since ≤ 1048576) : Calls Tryz.prog 86 #[.pointer (some ⟨d, 0, none⟩)] w fun e w' => e = .returned (.int .i64 since) ∧ w' = w := by
  have hw : IntKind.i64.wrap since = since := IntWalk.i64_in _ (by omega)
  go_enter Tryz.func86, Tryz.ntmps86
  go_wp2_with fail
  refine (int32Load_any ⟨d, 1, none⟩ since w ((hD.cell 1).trans rfl)).mono ?_
  rintro e w1 ⟨rfl, rfl⟩
  go_wp2_with fail
  go_ret
  exact ⟨rfl, rfl⟩
theorem dogFeed_any (d : Nat) (limit since : Int) (w : World) (hD : DogIs w d limit since) : Calls Tryz.prog 218 #[.pointer (some ⟨d, 0, none⟩)] w fun e w' => e = .returned (.tuple #[]) ∧ DogIs w' d limit 0 ∧ w' = w.setCell ⟨d, 1, none⟩ (.int .i32 0) := by
  go_enter Tryz.func218, Tryz.ntmps218
  go_wp2_with fail
  refine (int32Store_any ⟨d, 1, none⟩ since 0 w ((hD.cell 1).trans rfl) (hD.frozen 1)).mono ?_
  rintro e w1 ⟨rfl, rfl⟩
  go_wp2_with fail
  go_end0
  refine ⟨rfl, ?_, rfl⟩
  have := hD.set_ 1 (.int .i32 0)
  simpa [DogIs] using this
theorem dogExpired_any (d : Nat) (limit since : Int) (w : World) (hD : DogIs w d limit since) (hs : 0 ≤ since) (hs2 : since ≤ 1048576) : Calls Tryz.prog 152 #[.pointer (some ⟨d, 0, none⟩)] w fun e w' => e = .returned (.bool (decide (limit ≤ since))) ∧ ∃ k, w' = w.drewN k := by
  have hw : IntKind.i64.wrap since = since := IntWalk.i64_in _ (by omega)
  have hc := hD.cell
  have hl : ∀ k, Calls Tryz.prog 145 #[.pointer (some ⟨d, 1, none⟩)] (w.drewN k) fun e w' => e = .returned (.int .i32 since) ∧ w' = w.drewN k := fun k => int32Load_any ⟨d, 1, none⟩ since _ ((hD.drewN k).cell 1)
  go_enter Tryz.func152, Tryz.ntmps152
  go_wp2_with fail
  go_big_quiet ((go_at_call 145; exact Calls.quiet_of_same (hl _)))
  go_wp2_with fail
  go_ret
  exact ⟨rfl, _, rfl⟩
theorem dogTicks_neg (d : Nat) (n : Int) (w : World) (hn : n < 0) : Calls Tryz.prog 101 #[.pointer (some ⟨d, 0, none⟩), .int .i64 n] w fun e w' => e = .returned (.tuple #[.bool false, .int .i64 2]) ∧ w' = w := by
  go_enter Tryz.func101, Tryz.ntmps101
  go_wp2_with fail
  refine bodyPost_ret (v := .tuple #[.bool false, .int .i64 2]) (by simp [results, Tryz.results101, go_sem]) rfl ⟨rfl, rfl⟩
theorem dogTicks_any (d : Nat) (limit since n : Int) (w : World) (hD : DogIs w d limit since) (hs : 0 ≤ since) (hl : since ≤ limit) (hs2 : limit ≤ 1048576) (hn : 0 ≤ n) :
    Calls Tryz.prog 101 #[.pointer (some ⟨d, 0, none⟩), .int .i64 n] w fun e w' => e = .returned (.tuple #[.bool (ticksM limit since n).2, .int .i64 0]) ∧ DogIs w' d limit (ticksM limit since n).1 ∧ Keep (fun x => x = d) w w' ∧ w'.heap.size = w.heap.size := by
  have hx := dogExpired_any d limit since w hD hs (by omega)
  by_cases h1 : limit ≤ since
  · have e1 : ticksM limit since n = (since, false) := by unfold ticksM; rw [if_pos h1]
    rw [e1]
    rw [decide_eq_true h1] at hx
    clear e1
    go_enter Tryz.func101, Tryz.ntmps101
    go_wp2_with fail
    refine hx.mono ?_
    rintro e w1 ⟨rfl, k, rfl⟩
    go_wp2_with fail
    refine bodyPost_ret (v := .tuple #[.bool false, .int .i64 0]) (by simp [results, Tryz.results101, go_sem]) rfl ⟨rfl, hD.drewN k, (Keep.refl _ w).drewN k, rfl⟩
  · rw [decide_eq_false h1] at hx
    have hsub : IntKind.i64.wrap (limit - since) = limit - since := IntWalk.i64_in _ (by omega)
    obtain ⟨s', Hs⟩ : ∃ s', Hid (s' = ticksM limit since n) := ⟨_, Lib.hid rfl⟩
    rw [← Hs.out]
    go_enter Tryz.func101, Tryz.ntmps101
    go_wp2_with fail
    refine hx.mono ?_
    rintro e w1 ⟨rfl, k, hW⟩
    have hD1 : DogIs w1 d limit since := hW ▸ hD.drewN k
    have hk1 : Keep (fun x => x = d) w w1 := hW ▸ (Keep.refl _ w).drewN k
    have Hz1 : Hid (w1.heap.size = w.heap.size) := Lib.hid (by rw [hW]; rfl)
    clear hW hx hD
    have hc := hD1.cell
    have hq : ∀ j, Calls Tryz.prog 86 #[.pointer (some ⟨d, 0, none⟩)] (w1.drewN j) fun e w' => e = .returned (.int .i64 since) ∧ w' = w1.drewN j := fun j => dogSince_any d limit since _ (hD1.drewN j) hs (by omega)
    go_wp2_with fail
    go_big_quiet ((go_at_call 86; exact Calls.quiet_of_same (hq _)))
    have hD2 := hD1.drewN nq
    have hk2 := hk1.drewN nq
    have Hz2 : Hid ((w1.drewN nq).heap.size = w.heap.size) := Lib.hid Hz1.out
    generalize w1.drewN nq = W2 at *
    have hc2 := hD2.cell
    have hf2 := hD2.frozen
    clear hc hq hD1 hk1 Hz1
    rcases Int.lt_trichotomy n (limit - since) with h2 | h2 | h2
    · have hw32 : IntKind.i32.wrap n = n := IntWalk.i32_in _ (by omega)
      have hadd : IntKind.i32.wrap (since + n) = since + n := IntWalk.i32_in _ (by omega)
      have hn2 : ¬ limit - since ≤ n := by omega
      have Hs2 : Hid (s' = (since + n, false)) := Lib.hid (Hs.out.trans (by unfold ticksM; rw [if_neg (by omega), if_neg hn2]))
      clear Hs
      go_wp2_with fail
      refine (int32Add_any ⟨d, 1, none⟩ since n (since + n) W2 ((hD2.cell 1).trans rfl) (hD2.frozen 1) hadd).mono ?_
      rintro e W3 ⟨rfl, hW⟩
      have hD3 : DogIs W3 d limit (since + n) := by
        rw [hW]
        simpa [DogIs] using hD2.set_ 1 (.int .i32 (since + n))
      have hk3 : Keep (fun x => x = d) w W3 := hW ▸ hk2.setCell (p := ⟨d, 1, none⟩) (fun _ => rfl) _
      have Hz3 : Hid (W3.heap.size = w.heap.size) := Lib.hid (by rw [hW, ← Hz2.out]; simp [World.setCell])
      clear hW hc2 hf2 hD2 hk2 Hz2
      have e2 := Hs2.out
      subst e2
      go_wp2_with fail
      refine bodyPost_ret (v := .tuple #[.bool false, .int .i64 0]) (by simp [results, Tryz.results101, go_sem, h2]) rfl ⟨rfl, hD3, hk3, by first | trivial | exact Hz3.out⟩
    · subst h2
      have hw32 : IntKind.i32.wrap (limit - since) = limit - since := IntWalk.i32_in _ (by omega)
      have hadd : IntKind.i32.wrap (since + (limit - since)) = limit := by rw [show since + (limit - since) = limit by omega]; exact IntWalk.i32_in _ (by omega)
      have Hs2 : Hid (s' = (limit, true)) := Lib.hid (Hs.out.trans (by unfold ticksM; rw [if_neg (by omega), if_pos (Int.le_refl _)]))
      clear Hs
      go_wp2_with fail
      refine (int32Add_any ⟨d, 1, none⟩ since (limit - since) limit W2 ((hD2.cell 1).trans rfl) (hD2.frozen 1) hadd).mono ?_
      rintro e W3 ⟨rfl, hW⟩
      have hD3 : DogIs W3 d limit limit := by
        rw [hW]
        simpa [DogIs] using hD2.set_ 1 (.int .i32 limit)
      have hk3 : Keep (fun x => x = d) w W3 := hW ▸ hk2.setCell (p := ⟨d, 1, none⟩) (fun _ => rfl) _
      have Hz3 : Hid (W3.heap.size = w.heap.size) := Lib.hid (by rw [hW, ← Hz2.out]; simp [World.setCell])
      clear hW hc2 hf2 hD2 hk2 Hz2
      have e2 := Hs2.out
      subst e2
      go_wp2_with fail
      refine bodyPost_ret (v := .tuple #[.bool true, .int .i64 0]) (by simp [results, Tryz.results101, go_sem]) rfl ⟨rfl, hD3, hk3, by first | trivial | exact Hz3.out⟩
    · have hw32 : IntKind.i32.wrap (limit - since) = limit - since := IntWalk.i32_in _ (by omega)
      have hadd : IntKind.i32.wrap (since + (limit - since)) = limit := by rw [show since + (limit - since) = limit by omega]; exact IntWalk.i32_in _ (by omega)
      have Hs2 : Hid (s' = (limit, true)) := Lib.hid (Hs.out.trans (by unfold ticksM; rw [if_neg (by omega), if_pos (by omega)]))
      clear Hs
      go_wp2_with fail
      refine (int32Add_any ⟨d, 1, none⟩ since (limit - since) limit W2 ((hD2.cell 1).trans rfl) (hD2.frozen 1) hadd).mono ?_
      rintro e W3 ⟨rfl, hW⟩
      have hD3 : DogIs W3 d limit limit := by
        rw [hW]
        simpa [DogIs] using hD2.set_ 1 (.int .i32 limit)
      have hk3 : Keep (fun x => x = d) w W3 := hW ▸ hk2.setCell (p := ⟨d, 1, none⟩) (fun _ => rfl) _
      have Hz3 : Hid (W3.heap.size = w.heap.size) := Lib.hid (by rw [hW, ← Hz2.out]; simp [World.setCell])
      clear hW hc2 hf2 hD2 hk2 Hz2
      have e2 := Hs2.out
      subst e2
      go_wp2_with fail
      refine bodyPost_ret (v := .tuple #[.bool true, .int .i64 0]) (by simp [results, Tryz.results101, go_sem, Int.le_of_lt h2]) rfl ⟨rfl, hD3, hk3, by first | trivial | exact Hz3.out⟩
end Go.Proofs.YtdiogamcjihejaaGreat
