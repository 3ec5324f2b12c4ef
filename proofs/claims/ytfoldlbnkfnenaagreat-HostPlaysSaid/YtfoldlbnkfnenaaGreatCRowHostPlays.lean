/- HostPlays holds of every set and every list of calls: the host answers and shows what the document says. No conditions. -/
import Derived.Test.YtfoldlbnkfnenaaGreatRows
import Derived.Test.YtfoldlbnkfnenaaGreatBase14
import Derived.Test.YtfoldlbnkfnenaaGreatCHPlays
namespace Go.Proofs.YtfoldlbnkfnenaaGreat.hostPlays
open Go.ChangeShapes Go.WideShapes Go.ChangeAt Go.RowKit Go.Joins
set_option linter.unusedVariables false
set_option maxHeartbeats 10000000
theorem own : ownKnob Tryz.prog.godebug = none := by kernel_rfl
theorem laidOut : laidOutB Tryz.prog = true := by kernel_rfl
set_option maxRecDepth 100000 in
theorem lifted (os : Os) (started : os.Started) (H : Type) (enc : TypeId × Value → H) :
    ReturnsInHanded {} Tryz.checked os 9 .any (Rows.hostPlaysSpec.pre6 enc Tryz.prog Tryz.f9 Rows.hostPlaysRow.domain false) (Rows.hostPlaysSpec.post enc Tryz.prog Tryz.f9 false true false false) := by
  refine returnsInHanded_of_change_sized (C := Tryz.checked) own started (by kernel_rfl) Tryz.func9
    (ChangeSpec.witness6 (enc := enc) (C := Tryz.checked) false ⟨#[], #[.agg #[.int .u32 0, .int .i64 0, .int .i64 0, .int .i64 0, .int .u32 0], .slice none 0 0], []⟩ 8 (by kernel_rfl) (by kernel_rfl) (by kernel_rfl) (by kernel_rfl)) ?_
  intro W base args ds gs before hval0 hW hcnd hsz0 _
  have hsz : (DataW.weightsEach Tryz.prog (Tryz.f9.params.toList ++ Rows.hostPlaysSpec.plain.varTypes Tryz.prog) (ds ++ gs)).all (· ≤ reachBytes) = true := hsz0
  have hval : ∀ (j : Nat) t v, Tryz.f9.params[j]? = some t → args[j]? = some v → Value.okWide Tryz.prog W .any base t v := hval0
  have hW' := hW
  obtain ⟨p, q, hA0, hV, rfl, hfz, hnd⟩ := hW
  have hA : DataW.TrodAll enc Tryz.prog W 0 (fun _ => true) true Tryz.f9.params.toList args.toList ds p := hA0
  rw [Tryz.params9] at hA hval hsz
  obtain ⟨v0, vs0, d0, ds0, p0, q0, hargs, rfl, rfl, h0, r0⟩ := trodAll_cons hA
  obtain ⟨v1, vs1, d1, ds1, p1, q1, rfl, rfl, rfl, h1, r1⟩ := trodAll_cons r0
  obtain ⟨rfl, rfl, rfl⟩ := trodAll_nil r1
  obtain rfl : args = #[v0, v1] := by cases args; simp_all
  obtain ⟨rfl, rfl⟩ := trodVars_none hV
  have k0 := h0
  have lt0 : ∀ x ∈ p0, x.block < W.heap.size := by obtain ⟨m, hm⟩ := k0; exact DataW.trod_lt m _ _ _ hm
  obtain ⟨c0, c1, c2, c3, c4, e0, e1, e2, e3, e4, m, rfl, rfl, rfl, f0, f1, f2, f3, f4⟩ := open_agg5 Tryz.underlying30 (by kernel_rfl) (by kernel_rfl) (hval 0 30 v0 rfl rfl) h0
  obtain ⟨x0_0, g0, _, w0_0⟩ := DataW.trod_int Tryz.underlying28 f0
  obtain ⟨x0_1, g1, _, w0_1⟩ := DataW.trod_int Tryz.underlying3 f1
  obtain ⟨x0_2, g2, _, w0_2⟩ := DataW.trod_int Tryz.underlying3 f2
  obtain ⟨x0_3, g3, _, w0_3⟩ := DataW.trod_int Tryz.underlying3 f3
  obtain ⟨x0_4, g4, _, w0_4⟩ := DataW.trod_int Tryz.underlying28 f4
  simp only [List.cons.injEq, and_true] at g0 g1 g2 g3 g4
  subst g0 g1 g2 g3 g4
  have k1 := h1
  have lt1 : ∀ x ∈ p1, x.block < W.heap.size := by obtain ⟨m, hm⟩ := k1; exact DataW.trod_lt m _ _ _ hm
  obtain ⟨a1, len1, cap1, rfl⟩ := okWide_slice Tryz.underlying56 (hval 1 56 v1 rfl rfl)
  obtain ⟨l1, hl1⟩ := reads_ops hsz (jj := 1) rfl rfl Tryz.underlying56 Tryz.underlying48 (by kernel_rfl) Tryz.underlying3 Tryz.underlying3 Tryz.underlying3 Tryz.underlying4 Tryz.underlying22 Tryz.underlying5 (by kernel_rfl) (by kernel_rfl) Tryz.underlying3 Tryz.underlying28 ⟨rfl, rfl, rfl, rfl, rfl, rfl, rfl⟩ ⟨by kernel_rfl, by kernel_rfl, by kernel_rfl, by kernel_rfl, by kernel_rfl, by kernel_rfl, by kernel_rfl⟩ h1
  have y1 : len1 * 72 ≤ 140737488351232 := sized_any hsz (j := 1) (t := 56) rfl rfl Tryz.underlying56 (by kernel_rfl) h1
  clear hA0 hval0 hsz0 hsz
  refine (hostPlays_law ⟨x0_0, x0_1, x0_2, x0_3, x0_4⟩ a1 len1 cap1 l1 W (par_ok w0_0 w0_4) hl1 (by omega)).mono fun e W' ⟨he, bel⟩ => ?_
  subst he
  exact ⟨_, rfl, _, _, _, [], _, [], hW', trodAll_mk1 (shut_bool Tryz.underlying4 _), (trodAll_cons_mk (Below.trod laidOut (by kernel_rfl) (of_decide_eq_true (by kernel_rfl)) k0 bel lt0) (trodAll_cons_mk (Below.trod laidOut (by kernel_rfl) (of_decide_eq_true (by kernel_rfl)) k1 bel lt1) trodAll_mk0)), rfl, bel.frame _, fun h => by cases h⟩
theorem closed : joinedFacts Tryz.prog 9 Tryz.f9 Rows.hostPlaysSpec Rows.hostPlaysRow = true := by
  unfold joinedFacts
  simp only [Bool.and_eq_true]
  repeat' apply And.intro
  all_goals (as_aux_lemma => kernel_rfl)
theorem wraps : Tryz.f9.isWrapper Tryz.prog Rows.hostPlaysRow.wrapper Rows.hostPlaysRow.mainSum := by unfold Func.isWrapper; first | (rw [if_pos (by decide +kernel)]; kernel_rfl) | (rw [if_neg (by decide +kernel)]; exact ⟨rfl, rfl⟩)
theorem named : (Tryz.prog).funcNamed Rows.hostPlaysRow.func = some 9 := by kernel_rfl
theorem over : Rows.hostPlaysRow.holds Tryz.pinned (OpenSpec.ofChange Rows.hostPlaysSpec) :=
  OpenClaim.holds_of_wide 9 Tryz.f9 rfl rfl rfl rfl rfl rfl rfl ⟨rfl, rfl, rfl, rfl, rfl⟩ rfl rfl rfl rfl rfl named Tryz.func9 closed
    (of_decide_eq_true (by kernel_rfl)) wraps
    (fun os started H enc _ => lifted os started H enc)
theorem proved : Rows.HostPlaysSaid := over
#print axioms proved
end Go.Proofs.YtfoldlbnkfnenaaGreat.hostPlays
