/- DeviceFlags holds of every list of calls: the flags, the data and the number of what the device answers are what is seen behind it and what the application holds. No conditions. -/
import Derived.Test.YtlldgfejcjnpkaaGreatRows
import Derived.Test.YtlldgfejcjnpkaaGreatBase1
import Derived.Test.YtlldgfejcjnpkaaGreatCDFlags
import Derived.Test.YtlldgfejcjnpkaaGreatBase7
import Derived.Test.YtlldgfejcjnpkaaGreatBase8
set_option linter.unusedVariables false
namespace Go.Proofs.YtlldgfejcjnpkaaGreat.deviceFlags
open Go.ChangeShapes Go.WideShapes Go.ChangeAt Go.RowKit Go.Joins
set_option maxHeartbeats 10000000
theorem own : ownKnob Tryz.prog.godebug = none := by kernel_rfl
theorem laidOut : laidOutB Tryz.prog = true := by kernel_rfl
set_option maxRecDepth 100000 in
theorem lifted (os : Os) (started : os.Started) (H : Type) (enc : TypeId × Value → H) :
    ReturnsInHanded {} Tryz.checked os 4 .any (Rows.deviceFlagsSpec.pre6 enc Tryz.prog Tryz.f4 Rows.deviceFlagsRow.domain false) (Rows.deviceFlagsSpec.post enc Tryz.prog Tryz.f4 false true false false) := by
  refine returnsInHanded_of_change_sized (C := Tryz.checked) own started (by kernel_rfl) Tryz.func4
    (ChangeSpec.witness6 (enc := enc) (C := Tryz.checked) false ⟨#[], #[.slice none 0 0], []⟩ 8 (by kernel_rfl) (by kernel_rfl) (by kernel_rfl) (by kernel_rfl)) ?_
  intro W base args ds gs before hval0 hW hcnd hsz0 _
  have hsz : (DataW.weightsEach Tryz.prog (Tryz.f4.params.toList ++ Rows.deviceFlagsSpec.plain.varTypes Tryz.prog) (ds ++ gs)).all (· ≤ reachBytes) = true := hsz0
  have hval : ∀ (j : Nat) t v, Tryz.f4.params[j]? = some t → args[j]? = some v → Value.okWide Tryz.prog W .any base t v := hval0
  have hW' := hW
  obtain ⟨p, q, hA0, hV, rfl, hfz, hnd⟩ := hW
  have hA : DataW.TrodAll enc Tryz.prog W 0 (fun _ => true) true Tryz.f4.params.toList args.toList ds p := hA0
  rw [Tryz.params4] at hA hval hsz
  obtain ⟨v0, vs0, d0, ds0, p0, q0, hargs, rfl, rfl, h0, r0⟩ := trodAll_cons hA
  obtain ⟨rfl, rfl, rfl⟩ := trodAll_nil r0
  obtain rfl : args = #[v0] := by cases args; simp_all
  obtain ⟨rfl, rfl⟩ := trodVars_none hV
  have k0 := h0
  have lt0 : ∀ x ∈ p0, x.block < W.heap.size := by obtain ⟨m, hm⟩ := k0; exact DataW.trod_lt m _ _ _ hm
  obtain ⟨a0, len0, cap0, rfl⟩ := okWide_slice Tryz.underlying60 (hval 0 60 v0 rfl rfl)
  obtain ⟨l0, hl0⟩ := reads_ops hsz (jj := 0) rfl rfl Tryz.underlying60 Tryz.underlying50 (by kernel_rfl) Tryz.underlying3 Tryz.underlying3 Tryz.underlying3 Tryz.underlying4 Tryz.underlying22 Tryz.underlying5 (by kernel_rfl) (by kernel_rfl) Tryz.underlying3 Tryz.underlying34 ⟨rfl, rfl, rfl, rfl, rfl, rfl, rfl⟩ ⟨by kernel_rfl, by kernel_rfl, by kernel_rfl, by kernel_rfl, by kernel_rfl, by kernel_rfl, by kernel_rfl⟩ h0
  have y0 : len0 * 72 ≤ 140737488351232 := sized_any hsz (j := 0) (t := 60) rfl rfl Tryz.underlying60 (by kernel_rfl) h0
  clear hA0 hval0 hsz0 hsz
  refine ((deviceFlags_law a0 len0 cap0 l0 W hl0 (by omega))).mono fun e W' ⟨he, bel⟩ => ?_
  subst he
  exact ⟨_, rfl, _, _, _, [], _, [], hW', trodAll_mk1 (shut_bool Tryz.underlying4 _), (trodAll_cons_mk (Below.trod laidOut (by kernel_rfl) (of_decide_eq_true (by kernel_rfl)) k0 bel lt0) trodAll_mk0), rfl, bel.frame _, fun h => by cases h⟩
theorem closed : joinedFacts Tryz.prog 4 Tryz.f4 Rows.deviceFlagsSpec Rows.deviceFlagsRow = true := by
  unfold joinedFacts
  simp only [Bool.and_eq_true]
  repeat' apply And.intro
  all_goals (as_aux_lemma => kernel_rfl)
theorem wraps : Tryz.f4.isWrapper Tryz.prog Rows.deviceFlagsRow.wrapper Rows.deviceFlagsRow.mainSum := by unfold Func.isWrapper; first | (rw [if_pos (by decide +kernel)]; kernel_rfl) | (rw [if_neg (by decide +kernel)]; exact ⟨rfl, rfl⟩)
theorem named : (Tryz.prog).funcNamed Rows.deviceFlagsRow.func = some 4 := by kernel_rfl
theorem over : Rows.deviceFlagsRow.holds Tryz.pinned (OpenSpec.ofChange Rows.deviceFlagsSpec) :=
  OpenClaim.holds_of_wide 4 Tryz.f4 rfl rfl rfl rfl rfl rfl rfl ⟨rfl, rfl, rfl, rfl, rfl⟩ rfl rfl rfl rfl rfl named Tryz.func4 closed
    (of_decide_eq_true (by kernel_rfl)) wraps
    (fun os started H enc _ => lifted os started H enc)
theorem proved : Rows.DeviceFlagsSaid := over
#print axioms proved
end Go.Proofs.YtlldgfejcjnpkaaGreat.deviceFlags
