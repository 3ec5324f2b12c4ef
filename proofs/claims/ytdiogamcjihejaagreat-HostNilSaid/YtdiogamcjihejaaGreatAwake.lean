/- parapetref13.Same, parapetlaw13.Small, parapetlaw14.Awake. -/
import Derived.Test.YtdiogamcjihejaaGreatRef09
import Derived.Test.YtdiogamcjihejaaGreatRef04c
import Derived.Test.YtdiogamcjihejaaGreatHostRc
import Derived.Test.YtdiogamcjihejaaGreatHostNil
import Derived.Test.YtdiogamcjihejaaGreatHostInv
import Derived.Test.YtdiogamcjihejaaGreatRound
namespace Go.Proofs.YtdiogamcjihejaaGreat
open Go.RowKit
set_option maxHeartbeats 10000000
set_option maxRecDepth 100000

theorem r13same_any (e : EndM) (A1 A2 : Option Addr) (c1 c2 B : Nat) (w : World) (h1 : Reads w B 1 A1 e.out.length (u8c e.out)) (h2 : Reads w B 1 A2 e.out.length (u8c e.out)) (hB : B ≤ w.heap.size) :
    Calls Tryz.prog 40 #[endVal e (.slice A1 e.out.length c1), endVal e (.slice A2 e.out.length c2)] w fun r w' => r = .returned (.bool true) ∧ Below w.heap.size w w' := by
  have k1 : ∀ o1 o2, (convert 22 9 (.slice A1 e.out.length c1)).run Tryz.prog ((w.alloc o1).alloc o2) = .ok (.string ⟨e.out.toArray⟩) ((w.alloc o1).alloc o2) := fun o1 o2 => conv_reads ((h1.alloc hB o1).alloc (by simp; omega) o2)
  have k2 : ∀ o1 o2, (convert 22 9 (.slice A2 e.out.length c2)).run Tryz.prog ((w.alloc o1).alloc o2) = .ok (.string ⟨e.out.toArray⟩) ((w.alloc o1).alloc o2) := fun o1 o2 => conv_reads ((h2.alloc hB o1).alloc (by simp; omega) o2)
  obtain ⟨state, session, number, sent, since, latched, request, on, out⟩ := e
  unfold endVal
  simp only at *
  have hb : ∀ o1 o2, Below w.heap.size w ((w.alloc o1).alloc o2) := fun o1 o2 => ((Below.refl _ _).alloc (Nat.le_refl _) o1).alloc (by simp) o2
  have q1 : ∀ W, (binOp .eql 4 (.bool request) (.bool request)).run Tryz.prog W = .ok (.bool true) W := by cases request <;> exact fun _ => by kernel_rfl
  have q2 : ∀ W, (binOp .eql 4 (.bool on) (.bool on)).run Tryz.prog W = .ok (.bool true) W := by cases on <;> exact fun _ => by kernel_rfl
  clear h1 h2 hB
  go_enter Tryz.func40, Tryz.ntmps40
  go_wp2_with fail
  go_ret
  exact ⟨by simp, hb _ _⟩
def smallM : ParM := ⟨7, 2, 1, 10, 9⟩
theorem small_ok : smallM.Ok := ⟨by decide, by decide⟩
theorem small_lawful : smallM.lawful = true := by decide
theorem lawSmall_any (w : World) : Calls Tryz.prog 22 #[] w fun e w' => e = .returned (parVal smallM) ∧ Below w.heap.size w w' := by
  go_enter Tryz.func22, Tryz.ntmps22
  go_wp2_with fail
  refine bodyPost_ret (v := parVal smallM) (by simp [results, Tryz.results22, go_sem, parVal, smallM]) rfl ⟨rfl, ?_⟩
  exact (Below.refl _ _).alloc (Nat.le_refl _) _
def smallH : HostM := HostM.new smallM
theorem smallH_good : smallH.Good := HostM.good_new smallM small_ok small_lawful []
theorem sign_length (p : ParM) : p.sign.length = 4 := by simp [ParM.sign, wordOf]
theorem small_send : smallH.send = ({ smallH with waits := true }, (UnitM.mk 1 7 0 0 0 smallM.sign).encode, 0) := by
  unfold HostM.send
  rw [if_neg (by decide)]
  have h1 : smallH.lost = smallH := by unfold HostM.lost; rw [if_pos (.inl rfl)]
  rw [h1]
  rfl
theorem small_frame : decodeM (UnitM.mk 1 7 0 0 0 smallM.sign).encode = (UnitM.mk 1 7 0 0 0 smallM.sign, 0) := by
  apply decode_encode
  · unfold UnitM.lawful
    simp [isHost, isDev, dataOk, sessOk, numOk, flagOk, sign_length]
  · exact ⟨by simp, by simp, by simp⟩
theorem own_cap {w : World} {base n c size : Nat} {e : TypeId} {A : Option Addr} {xs : List Value} (h : w.ownsRow base e size (.slice A n c) n xs) : n ≤ c := by
  rcases h.2 with ⟨h, h0⟩ | ⟨g, cap, cur, h, _, _, h1, _⟩
  · omega
  · injection h with _ _ h3; omega
theorem HostIs.below {B : Nat} {w w' : World} {a : Nat} {m : HostM} {F : Nat → Prop} (h : HostIs B w a m F) (hb : Below w.heap.size w w') : HostIs B w' a m F := by
  obtain ⟨d, v, g, val, FV, FL, h⟩ := h
  exact ⟨d, v, g, val, FV, FL, h.keepS (S := fun _ => False) (Keep.of_below hb) (fun _ _ h => h)⟩
theorem HostIs.lo {B : Nat} {w : World} {a : Nat} {m : HostM} {F : Nat → Prop} (h : HostIs B w a m F) : ∀ x, F x → B ≤ x ∧ x < w.heap.size := by
  obtain ⟨d, v, g, val, FV, FL, h⟩ := h
  exact h.fb
theorem end_state (a0 a1 a2 a3 a4 a5 a6 a7 a8 : Value) (W : World) : (Instr.field 53 (.agg #[a0, a1, a2, a3, a4, a5, a6, a7, a8]) 0).run Tryz.prog W = .ok a0 W := by
  unfold Instr.field
  simp only [Sem.run_bind, run_underlying Tryz.underlying53, Result.andThen]
  have hagg : (isAgg 51).run Tryz.prog W = .ok false W := by kernel_rfl
  show Sem.run _ (do let l ← asAgg (Value.agg #[a0, a1, a2, a3, a4, a5, a6, a7, a8]); part 51 l 0) W = _
  simp [Sem.run_bind, asAgg, part, hagg, Sem.run_pure]
theorem lawAwake_any (w : World) : Calls Tryz.prog 20 #[] w fun e w' => e = .returned (.bool true) ∧ Below w.heap.size w w' := by
  have hsend := small_send
  have hdec := small_frame
  have hfld := end_state
  go_enter Tryz.func20, Tryz.ntmps20
  go_wp2_with fail
  refine (lawSmall_any _).mono ?_
  rintro e w1 ⟨rfl, hb1⟩
  go_wp2_with fail
  refine (hostNew_any smallM w1 small_lawful).mono ?_
  rintro e w2 ⟨a, F, rfl, hI, hb2⟩
  have hb2' := hb1.trans (hb2.mono hb1.size)
  go_wp2_with fail
  refine (hostSend_any w1.heap.size a smallH F w2 hI smallH_good.inv (by decide)).mono ?_
  rw [hsend]
  simp only
  generalize hfr : (UnitM.mk 1 7 0 0 0 smallM.sign).encode = fr at *
  rintro e w3 ⟨x, rfl, hown, t3⟩
  obtain ⟨A3, c3, rfl⟩ := own_slice hown
  have hb3 : Below w.heap.size w w3 := hb2'.trans ((t3.keep.below (B := w.heap.size) hb2'.size (fun b hb => by have := (hI.lo b hb).1; have := hb1.size; omega)))
  have hI3 := t3.is_
  go_wp2_with fail
  refine (r4decode_any A3 _ c3 w3.heap.size fr w3 (Reads.of_own hown) (Nat.le_refl _) (own_cap hown)).mono ?_
  rw [hdec]
  simp only
  rintro e w4 ⟨v4, rfl, hown4, hb4⟩
  obtain ⟨A4, c4, rfl⟩ := own_slice hown4
  have hb4' := hb3.trans (hb4.mono hb3.size)
  generalize smallM.sign.length = nd at *
  have hI4 := (hI3.below hb4).below ((Below.refl w4.heap.size w4).alloc (Nat.le_refl _) (.cells #[.int .i64 1, .int .u32 7, .int .u32 0, .int .u32 0, .int .i64 0, .slice A4 nd c4] 60))
  have hb5 := hb4'.alloc hb4'.size (.cells #[.int .i64 1, .int .u32 7, .int .u32 0, .int .u32 0, .int .i64 0, .slice A4 nd c4] 60)
  unfold unitVal
  simp only
  clear hown4 hfr hsend hdec
  go_wp2_with fail
  have hsee := hostSee_any w1.heap.size a { smallH with waits := true } _ _ hI4 { smallH_good.inv with }
  have hst : ({ smallH with waits := true } : HostM).see.state = 1 := rfl
  generalize ({ smallH with waits := true } : HostM).see = em at hsee hst
  obtain ⟨state, session, number, sent, since, latched, request, on, out⟩ := em
  simp only at hst
  subst hst
  refine hsee.mono ?_
  rintro e w6 ⟨x6, rfl, hown6, hb6⟩
  have hb6' := hb5.trans (hb6.mono hb5.size)
  obtain ⟨A6, c6, rfl⟩ := own_slice hown6
  unfold endVal
  simp only
  go_wp2_with fail
  go_ret
  exact ⟨rfl, hb6'⟩
end Go.Proofs.YtdiogamcjihejaaGreat
