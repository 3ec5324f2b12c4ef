/- DeviceSessions holds of every list of cuts and every list of wakes: the sessions rise, and the device wakes idle. No conditions. -/
import Derived.Test.YtbkkfkbgcklkgaaGreatRows
import Derived.Test.YtbkkfkbgcklkgaaGreatBase13
import Derived.Test.YtbkkfkbgcklkgaaGreatCDSess
namespace Go.Proofs.YtbkkfkbgcklkgaaGreat.deviceSessions
open Go.ChangeShapes Go.WideShapes Go.ChangeAt Go.RowKit Go.Joins
set_option linter.unusedVariables false
set_option maxHeartbeats 10000000
theorem own : ownKnob Tryz.prog.godebug = none := by kernel_rfl
theorem laidOut : laidOutB Tryz.prog = true := by kernel_rfl
set_option maxRecDepth 100000 in
theorem lifted (os : Os) (started : os.Started) (H : Type) (enc : TypeId × Value → H) :
    ReturnsInHanded {} Tryz.checked os 5 .any (Rows.deviceSessionsSpec.pre6 enc Tryz.prog Tryz.f5 Rows.deviceSessionsRow.domain false) (Rows.deviceSessionsSpec.post enc Tryz.prog Tryz.f5 false true false false) := by
  refine returnsInHanded_of_change_sized (C := Tryz.checked) own started (by kernel_rfl) Tryz.func5
    (ChangeSpec.witness6 (enc := enc) (C := Tryz.checked) false ⟨#[], #[.slice none 0 0, .slice none 0 0], []⟩ 8 (by kernel_rfl) (by kernel_rfl) (by kernel_rfl) (by kernel_rfl)) ?_
  intro W base args ds gs before hval0 hW hcnd hsz0 _
  have hsz : (DataW.weightsEach Tryz.prog (Tryz.f5.params.toList ++ Rows.deviceSessionsSpec.plain.varTypes Tryz.prog) (ds ++ gs)).all (· ≤ reachBytes) = true := hsz0
  have hval : ∀ (j : Nat) t v, Tryz.f5.params[j]? = some t → args[j]? = some v → Value.okWide Tryz.prog W .any base t v := hval0
  have hW' := hW
  obtain ⟨p, q, hA0, hV, rfl, hfz, hnd⟩ := hW
  have hA : DataW.TrodAll enc Tryz.prog W 0 (fun _ => true) true Tryz.f5.params.toList args.toList ds p := hA0
  rw [Tryz.params5] at hA hval hsz
  obtain ⟨v0, vs0, d0, ds0, p0, q0, hargs, rfl, rfl, h0, r0⟩ := trodAll_cons hA
  obtain ⟨v1, vs1, d1, ds1, p1, q1, rfl, rfl, rfl, h1, r1⟩ := trodAll_cons r0
  obtain ⟨rfl, rfl, rfl⟩ := trodAll_nil r1
  obtain rfl : args = #[v0, v1] := by cases args; simp_all
  obtain ⟨rfl, rfl⟩ := trodVars_none hV
  have k0 := h0
  have lt0 : ∀ x ∈ p0, x.block < W.heap.size := by obtain ⟨m, hm⟩ := k0; exact DataW.trod_lt m _ _ _ hm
  obtain ⟨a0, len0, cap0, rfl⟩ := okWide_slice Tryz.underlying63 (hval 0 63 v0 rfl rfl)
  obtain ⟨z0, zl0, hz0, wz0, lc0, cm0, an0⟩ := reads_ints Tryz.underlying63 Tryz.underlying3 (by kernel_rfl) h0
  have y0 : len0 * 8 ≤ 140737488351232 := sized_any hsz (j := 0) (t := 63) rfl rfl Tryz.underlying63 (by kernel_rfl) h0
  have k1 := h1
  have lt1 : ∀ x ∈ p1, x.block < W.heap.size := by obtain ⟨m, hm⟩ := k1; exact DataW.trod_lt m _ _ _ hm
  obtain ⟨a1, len1, cap1, rfl⟩ := okWide_slice Tryz.underlying63 (hval 1 63 v1 rfl rfl)
  obtain ⟨z1, zl1, hz1, wz1, lc1, cm1, an1⟩ := reads_ints Tryz.underlying63 Tryz.underlying3 (by kernel_rfl) h1
  have y1 : len1 * 8 ≤ 140737488351232 := sized_any hsz (j := 1) (t := 63) rfl rfl Tryz.underlying63 (by kernel_rfl) h1
  clear hA0 hval0 hsz0 hsz
  refine (deviceSessions_law a0 len0 cap0 z0 a1 len1 cap1 z1 W hz0 hz1 (fun z hz => by have := wf_i64 (wz0 z hz); omega) (fun z hz => by have := wf_i64 (wz1 z hz); omega) (by omega) (by omega)).mono fun e W' ⟨he, bel⟩ => ?_
  subst he
  exact ⟨_, rfl, _, _, _, [], _, [], hW', trodAll_mk1 (shut_bool Tryz.underlying4 _), (trodAll_cons_mk (Below.trod laidOut (by kernel_rfl) (of_decide_eq_true (by kernel_rfl)) k0 bel lt0) (trodAll_cons_mk (Below.trod laidOut (by kernel_rfl) (of_decide_eq_true (by kernel_rfl)) k1 bel lt1) trodAll_mk0)), rfl, bel.frame _, fun h => by cases h⟩
theorem closed : joinedFacts Tryz.prog 5 Tryz.f5 Rows.deviceSessionsSpec Rows.deviceSessionsRow = true := by
  unfold joinedFacts
  simp only [Bool.and_eq_true]
  repeat' apply And.intro
  all_goals (as_aux_lemma => kernel_rfl)
theorem wraps : Tryz.f5.isWrapper Tryz.prog Rows.deviceSessionsRow.wrapper Rows.deviceSessionsRow.mainSum := by unfold Func.isWrapper; first | (rw [if_pos (by decide +kernel)]; kernel_rfl) | (rw [if_neg (by decide +kernel)]; exact ⟨rfl, rfl⟩)
theorem named : (Tryz.prog).funcNamed Rows.deviceSessionsRow.func = some 5 := by kernel_rfl
theorem over : Rows.deviceSessionsRow.holds Tryz.pinned (OpenSpec.ofChange Rows.deviceSessionsSpec) :=
  OpenClaim.holds_of_wide 5 Tryz.f5 rfl rfl rfl rfl rfl rfl rfl ⟨rfl, rfl, rfl, rfl, rfl⟩ rfl rfl rfl rfl rfl named Tryz.func5 closed
    (of_decide_eq_true (by kernel_rfl)) wraps
    (fun os started H enc _ => lifted os started H enc)
theorem proved : Rows.DeviceSessionsSaid := over
#print axioms proved
end Go.Proofs.YtbkkfkbgcklkgaaGreat.deviceSessions
