/- DevicePlays holds of every set, every memory, every bound and every list of calls: the device answers and shows what the document says. No conditions. -/
import Derived.Test.YtbkkfkbgcklkgaaGreatRows
import Derived.Test.YtbkkfkbgcklkgaaGreatBase21
import Derived.Test.YtbkkfkbgcklkgaaGreatCDPlays
namespace Go.Proofs.YtbkkfkbgcklkgaaGreat.devicePlays
open Go.ChangeShapes Go.WideShapes Go.ChangeAt Go.RowKit Go.Joins
set_option linter.unusedVariables false
set_option maxHeartbeats 10000000
theorem own : ownKnob Tryz.prog.godebug = none := by kernel_rfl
theorem laidOut : laidOutB Tryz.prog = true := by kernel_rfl
set_option maxRecDepth 100000 in
theorem lifted (os : Os) (started : os.Started) (H : Type) (enc : TypeId × Value → H) :
    ReturnsInHanded {} Tryz.checked os 11 .any (Rows.devicePlaysSpec.pre6 enc Tryz.prog Tryz.f11 Rows.devicePlaysRow.domain false) (Rows.devicePlaysSpec.post enc Tryz.prog Tryz.f11 false true false false) := by
  refine returnsInHanded_of_change_sized (C := Tryz.checked) own started (by kernel_rfl) Tryz.func11
    (ChangeSpec.witness6 (enc := enc) (C := Tryz.checked) false ⟨#[], #[.agg #[.int .u32 0, .int .i64 0, .int .i64 0, .int .i64 0, .int .u32 0], .slice none 0 0, .int .u32 0, .slice none 0 0], []⟩ 8 (by kernel_rfl) (by kernel_rfl) (by kernel_rfl) (by kernel_rfl)) ?_
  intro W base args ds gs before hval0 hW hcnd hsz0 _
  have hsz : (DataW.weightsEach Tryz.prog (Tryz.f11.params.toList ++ Rows.devicePlaysSpec.plain.varTypes Tryz.prog) (ds ++ gs)).all (· ≤ reachBytes) = true := hsz0
  have hval : ∀ (j : Nat) t v, Tryz.f11.params[j]? = some t → args[j]? = some v → Value.okWide Tryz.prog W .any base t v := hval0
  have hW' := hW
  obtain ⟨p, q, hA0, hV, rfl, hfz, hnd⟩ := hW
  have hA : DataW.TrodAll enc Tryz.prog W 0 (fun _ => true) true Tryz.f11.params.toList args.toList ds p := hA0
  rw [Tryz.params11] at hA hval hsz
  obtain ⟨v0, vs0, d0, ds0, p0, q0, hargs, rfl, rfl, h0, r0⟩ := trodAll_cons hA
  obtain ⟨v1, vs1, d1, ds1, p1, q1, rfl, rfl, rfl, h1, r1⟩ := trodAll_cons r0
  obtain ⟨v2, vs2, d2, ds2, p2, q2, rfl, rfl, rfl, h2, r2⟩ := trodAll_cons r1
  obtain ⟨v3, vs3, d3, ds3, p3, q3, rfl, rfl, rfl, h3, r3⟩ := trodAll_cons r2
  obtain ⟨rfl, rfl, rfl⟩ := trodAll_nil r3
  obtain rfl : args = #[v0, v1, v2, v3] := by cases args; simp_all
  obtain ⟨rfl, rfl⟩ := trodVars_none hV
  have k0 := h0
  have lt0 : ∀ x ∈ p0, x.block < W.heap.size := by obtain ⟨m, hm⟩ := k0; exact DataW.trod_lt m _ _ _ hm
  obtain ⟨c0, c1, c2, c3, c4, e0, e1, e2, e3, e4, m, rfl, rfl, rfl, f0, f1, f2, f3, f4⟩ := open_agg5 Tryz.underlying35 (by kernel_rfl) (by kernel_rfl) (hval 0 35 v0 rfl rfl) h0
  obtain ⟨x0_0, g0, _, w0_0⟩ := DataW.trod_int Tryz.underlying33 f0
  obtain ⟨x0_1, g1, _, w0_1⟩ := DataW.trod_int Tryz.underlying3 f1
  obtain ⟨x0_2, g2, _, w0_2⟩ := DataW.trod_int Tryz.underlying3 f2
  obtain ⟨x0_3, g3, _, w0_3⟩ := DataW.trod_int Tryz.underlying3 f3
  obtain ⟨x0_4, g4, _, w0_4⟩ := DataW.trod_int Tryz.underlying33 f4
  simp only [List.cons.injEq, and_true] at g0 g1 g2 g3 g4
  subst g0 g1 g2 g3 g4
  have k1 := h1
  have lt1 : ∀ x ∈ p1, x.block < W.heap.size := by obtain ⟨m, hm⟩ := k1; exact DataW.trod_lt m _ _ _ hm
  obtain ⟨a1, len1, cap1, rfl⟩ := okWide_slice Tryz.underlying41 (hval 1 41 v1 rfl rfl)
  obtain ⟨z1, zl1, hz1, wz1, lc1, cm1, an1⟩ := reads_ints Tryz.underlying41 Tryz.underlying5 (by kernel_rfl) h1
  have y1 : len1 * 1 ≤ 140737488351232 := sized_any hsz (j := 1) (t := 41) rfl rfl Tryz.underlying41 (by kernel_rfl) h1
  have k2 := h2
  have lt2 : ∀ x ∈ p2, x.block < W.heap.size := by obtain ⟨m, hm⟩ := k2; exact DataW.trod_lt m _ _ _ hm
  obtain ⟨a2, rfl, rfl, rfl, w2⟩ := open_int Tryz.underlying33 (hval 2 33 v2 rfl rfl) h2
  have k3 := h3
  have lt3 : ∀ x ∈ p3, x.block < W.heap.size := by obtain ⟨m, hm⟩ := k3; exact DataW.trod_lt m _ _ _ hm
  obtain ⟨a3, len3, cap3, rfl⟩ := okWide_slice Tryz.underlying71 (hval 3 71 v3 rfl rfl)
  obtain ⟨l3, hl3⟩ := reads_ops hsz (jj := 3) rfl rfl Tryz.underlying71 Tryz.underlying45 (by kernel_rfl) Tryz.underlying3 Tryz.underlying3 Tryz.underlying3 Tryz.underlying4 Tryz.underlying41 Tryz.underlying5 (by kernel_rfl) (by kernel_rfl) Tryz.underlying3 Tryz.underlying33 ⟨rfl, rfl, rfl, rfl, rfl, rfl, rfl⟩ ⟨by kernel_rfl, by kernel_rfl, by kernel_rfl, by kernel_rfl, by kernel_rfl, by kernel_rfl, by kernel_rfl⟩ h3
  have y3 : len3 * 72 ≤ 140737488351232 := sized_any hsz (j := 3) (t := 71) rfl rfl Tryz.underlying71 (by kernel_rfl) h3
  clear hA0 hval0 hsz0 hsz
  refine (devicePlays_law ⟨x0_0, x0_1, x0_2, x0_3, x0_4⟩ a1 len1 cap1 (bytesOf z1) a2 a3 len3 cap3 l3 W (par_ok w0_0 w0_4) (reads_bytes hz1 wz1) (by omega) (wf_u32 w2) hl3 (by omega)).mono fun e W' ⟨he, bel⟩ => ?_
  subst he
  exact ⟨_, rfl, _, _, _, [], _, [], hW', trodAll_mk1 (shut_bool Tryz.underlying4 _), (trodAll_cons_mk (Below.trod laidOut (by kernel_rfl) (of_decide_eq_true (by kernel_rfl)) k0 bel lt0) (trodAll_cons_mk (Below.trod laidOut (by kernel_rfl) (of_decide_eq_true (by kernel_rfl)) k1 bel lt1) (trodAll_cons_mk (Below.trod laidOut (by kernel_rfl) (of_decide_eq_true (by kernel_rfl)) k2 bel lt2) (trodAll_cons_mk (Below.trod laidOut (by kernel_rfl) (of_decide_eq_true (by kernel_rfl)) k3 bel lt3) trodAll_mk0)))), rfl, bel.frame _, fun h => by cases h⟩
theorem closed : joinedFacts Tryz.prog 11 Tryz.f11 Rows.devicePlaysSpec Rows.devicePlaysRow = true := by
  unfold joinedFacts
  simp only [Bool.and_eq_true]
  repeat' apply And.intro
  all_goals (as_aux_lemma => kernel_rfl)
theorem wraps : Tryz.f11.isWrapper Tryz.prog Rows.devicePlaysRow.wrapper Rows.devicePlaysRow.mainSum := by unfold Func.isWrapper; first | (rw [if_pos (by decide +kernel)]; kernel_rfl) | (rw [if_neg (by decide +kernel)]; exact ⟨rfl, rfl⟩)
theorem named : (Tryz.prog).funcNamed Rows.devicePlaysRow.func = some 11 := by kernel_rfl
theorem over : Rows.devicePlaysRow.holds Tryz.pinned (OpenSpec.ofChange Rows.devicePlaysSpec) :=
  OpenClaim.holds_of_wide 11 Tryz.f11 rfl rfl rfl rfl rfl rfl rfl ⟨rfl, rfl, rfl, rfl, rfl⟩ rfl rfl rfl rfl rfl named Tryz.func11 closed
    (of_decide_eq_true (by kernel_rfl)) wraps
    (fun os started H enc _ => lifted os started H enc)
theorem proved : Rows.DevicePlaysSaid := over
#print axioms proved
end Go.Proofs.YtbkkfkbgcklkgaaGreat.devicePlays
