/- parapetlaw16's step. -/
import Derived.Test.YtlldgfejcjnpkaaGreatCMuxStepR
import Derived.Test.YtlldgfejcjnpkaaGreatBase31
import Derived.Test.YtlldgfejcjnpkaaGreatBase33
import Derived.Deep.RegionHeld
import Derived.Deep.RegionHeld3
set_option linter.unusedVariables false
namespace Go.Proofs.YtlldgfejcjnpkaaGreat
open Go.RowKit
set_option maxHeartbeats 10000000
set_option maxRecDepth 100000

section
variable {B k : Nat} {w w' : World} {z x y n i o0 cd cm cr : Nat} {R : List PRow} {Q : List QRow} {U : Nat → Prop} {dad mad rad : Addr} {r : PRow} {q : QRow} {x0 x1 x2 x3 x4 x5 x6 x7 : Value}
theorem muxFrS (hT : TabN w z x y n R Q U dad mad rad cd cm cr) (hq : Q[i]? = some q) (hO : Blk w o0 97 #[x0, x1, x2, x3, x4, x5, x6, x7]) :
    w.cell? ⟨z, 4, none⟩ = some (.slice (some rad) n cr) ∧ w.cell? (rad.add i) = some (.pointer (some ⟨q.b, 0, none⟩)) ∧ w.cell? ⟨o0, 1, none⟩ = some x1 ∧ w.cell? ⟨o0, 2, none⟩ = some x2 ∧ w.cell? ⟨o0, 3, none⟩ = some x3 ∧ w.cell? ⟨o0, 4, none⟩ = some x4 ∧ w.cell? ⟨o0, 5, none⟩ = some x5 ∧ w.cell? ⟨o0, 6, none⟩ = some x6 ∧ w.cell? ⟨o0, 7, none⟩ = some x7 :=
  ⟨(hT.blk.cell 4).trans rfl, hT.q i q hq, (hO.cell 1).trans rfl, (hO.cell 2).trans rfl, (hO.cell 3).trans rfl, (hO.cell 4).trans rfl, (hO.cell 5).trans rfl, (hO.cell 6).trans rfl, (hO.cell 7).trans rfl⟩
theorem mux8S (hT : TabN w z x y n R Q U dad mad rad cd cm cr) (hr : R[i]? = some r) (hq : Q[i]? = some q) (hO : Blk w o0 97 #[x0, x1, x2, x3, x4, x5, x6, x7]) :
    w.cell? ⟨z, 2, none⟩ = some (.slice (some dad) n cd) ∧ w.cell? ⟨z, 4, none⟩ = some (.slice (some rad) n cr) ∧ w.cell? (dad.add i) = some (.pointer (some ⟨r.a, 0, none⟩)) ∧ w.cell? (rad.add i) = some (.pointer (some ⟨q.b, 0, none⟩)) ∧ w.cell? ⟨o0, 2, none⟩ = some x2 :=
  ⟨(hT.blk.cell 2).trans rfl, (hT.blk.cell 4).trans rfl, hT.d i r hr, hT.q i q hq, (hO.cell 2).trans rfl⟩
theorem mux10S (hT : TabN w z x y n R Q U dad mad rad cd cm cr) (hr : R[i]? = some r) (hq : Q[i]? = some q) :
    w.cell? ⟨z, 2, none⟩ = some (.slice (some dad) n cd) ∧ w.cell? ⟨z, 4, none⟩ = some (.slice (some rad) n cr) ∧ w.cell? (dad.add i) = some (.pointer (some ⟨r.a, 0, none⟩)) ∧ w.cell? (rad.add i) = some (.pointer (some ⟨q.b, 0, none⟩)) :=
  ⟨(hT.blk.cell 2).trans rfl, (hT.blk.cell 4).trans rfl, hT.d i r hr, hT.q i q hq⟩
theorem mux12S (hT : TabN w z x y n R Q U dad mad rad cd cm cr) (hr : R[i]? = some r) (hq : Q[i]? = some q) (hO : Blk w o0 97 #[x0, x1, x2, x3, x4, x5, x6, x7]) {m : DevM} {mb cb : Nat} {lg vv val : Value} (hb : Blk w q.b 95 (rdCells m mb cb lg vv val)) :
    w.cell? ⟨z, 3, none⟩ = some (.slice (some mad) n cm) ∧ w.cell? ⟨z, 4, none⟩ = some (.slice (some rad) n cr) ∧ w.cell? (mad.add i) = some (.pointer (some ⟨r.ma, 0, none⟩)) ∧ w.cell? (rad.add i) = some (.pointer (some ⟨q.b, 0, none⟩)) ∧ w.cell? ⟨o0, 2, none⟩ = some x2 ∧ w.cell? ⟨q.b, 5, none⟩ = some (.pointer (some ⟨mb, 0, none⟩)) :=
  ⟨(hT.blk.cell 3).trans rfl, (hT.blk.cell 4).trans rfl, hT.m i r hr, hT.q i q hq, (hO.cell 2).trans rfl, (hb.cell 5).trans rfl⟩
theorem muxZ0 {vx v1 v2 v3 v4 : Value} (h : Blk w z 78 #[vx, v1, v2, v3, v4]) : w.cell? ⟨z, 0, none⟩ = some vx := (h.cell 0).trans rfl
end
theorem dack_p (m : DevM) : m.ack.1.p = m.p := by
  unfold DevM.ack
  split
  · rfl
  split <;> rfl
theorem dreset_p (d : DevM) (n : Int) : (d.reset n).1.p = d.p := by
  unfold DevM.reset
  split
  · rfl
  · simp only
    generalize openM _ _ = r
    obtain ⟨m, c, e⟩ := r
    cases c <;> rfl
theorem MuxW.more {B k : Nat} {w : World} {z x y : Nat} {R : List PRow} {lost : Int} {Q : List QRow} {F G U : Nat → Prop} (h : MuxW B w z x y R Q lost F G U k) : MuxW B w z x y R Q lost F G U (k + 1) :=
  ⟨h.h, h.same, h.len8, fun r hr => by have := h.used r hr; omega, by have := h.lostk; omega⟩
/-- An op with its place. -/
def popVal (place : Int) (o : OpM) (x : Value) : Value := .agg #[.int .i64 place, .int .i64 o.kind, .int .i64 o.n, .int .i64 o.flags, .bool o.odd, x, .int .i64 o.at_, .int .u32 o.word]
/-- A step at one device. -/
theorem l16step_one (B k z x y : Nat) (R : List PRow) (Q : List QRow) (lost : Int) (F G U : Nat → Prop) (place : Int) (o : OpM) (A : Option Addr) (c : Nat) (w : World) (h : MuxW B w z x y R Q lost F G U k) (hk : k ≤ 1000000) (ho : o.Ok) (hr : Reads w B 1 A o.data.length (u8c o.data)) (hoc : o.data.length ≤ c) (hod : o.data.length ≤ 140737488351232) (h20 : o.kind ≠ 20) (h0 : 0 < R.length) :
    Calls Tryz.prog 42 #[.pointer (some ⟨z, 0, none⟩), popVal place o (.slice A o.data.length c)] w fun e w' => e = .returned (.bool true) ∧ StepAns B z x y R Q U k w w' := by
  obtain ⟨kind, on_, flags, odd, data, at_, word⟩ := o
  simp only at *
  have hB := h.h.prog.Ble
  have hon := ho.n
  simp only at hon
  have h8 := h.len8
  obtain ⟨dad, mad, rad, cd, cm, cr, hT⟩ := h.tabN h0
  obtain ⟨nR, HnR⟩ : ∃ nR, Hid (nR = R.length) := ⟨_, Lib.hid rfl⟩
  rw [← HnR.out] at hT h8 h0
  obtain ⟨fr, Hfr⟩ : ∃ fr, Hid (fr = (place % 18446744073709551616).toNat % nR) := ⟨_, Lib.hid rfl⟩
  have hfr : fr < nR := by rw [Hfr.out]; exact Nat.mod_lt _ h0
  have hrem := rem_u64 h0 (by omega) Hfr.out
  obtain ⟨r, hRr⟩ : ∃ r, R[fr]? = some r := ⟨_, List.getElem?_eq_getElem (by rw [← HnR.out]; exact hfr)⟩
  obtain ⟨q, hQq, hqm, hqs⟩ := h.at_ hRr
  have hbO := (Below.refl w.heap.size w).alloc (Nat.le_refl _) (.cells #[.int .i64 place, .int .i64 kind, .int .i64 on_, .int .i64 flags, .bool odd, .slice A data.length c, .int .i64 at_, .int .u32 word] 97)
  have hO := Blk.new w 97 #[.int .i64 place, .int .i64 kind, .int .i64 on_, .int .i64 flags, .bool odd, .slice A data.length c, .int .i64 at_, .int .u32 word]
  have HW := Lib.hid h
  have h1 := h.below hbO
  have hT1 := hT.below (hbO.mono (by exact Nat.le_refl _))
  have hr1 := hr.below (hbO.mono hB)
  have hs1 := hbO.size
  unfold popVal at *
  have g20 : (kind == 20) = false := by simpa using h20
  have g0 : ((nR : Int) == 0) = false := by simp; omega
  clear h hT hr h20
  go_enter Tryz.func42, Tryz.ntmps42
  go_upto_region 1 with fail
  obtain ⟨o0, Ho0⟩ : ∃ e, Hid (e = w.heap.size) := ⟨_, Lib.hid rfl⟩
  rw [← Ho0.out] at hO ⊢
  generalize w.alloc (.cells _ 97) = W1 at *
  have hoc1 := hO.cell
  have hcz := hT1.blk.cell
  have hoc2 := hO.drew.cell
  have hcz2 := hT1.blk.drew.cell
  go_upto_region 12 with fail
  go_region
  rw [hrem]
  have hbd := (Below.refl W1.heap.size W1).drew
  replace hO := hO.drew
  replace hT1 := hT1.below hbd
  replace h1 := h1.below hbd
  replace hr1 := hr1.below (hbd.mono (by omega))
  replace hbO := hbO.trans (hbd.mono hs1)
  clear hoc1 hcz hoc2 hcz2 hrem g0 g20 hs1 hbd
  generalize W1.drew = W2 at *
  have hs2 := hbO.size
  have hB2 : B ≤ W2.heap.size := by omega
  obtain ⟨FD, GD, hD, hR, hi, hFD, hGD, hdj, hcl⟩ := h1.dev2 hRr hQq hqm hqs
  have hfr13 := fun (W : World) (hb : Below W2.heap.size W2 W) => l13Frame_any B q.b q.mb r.m GD ⟨kind, on_, flags, odd, data, at_, word⟩ A c B W (hR.below hb) hi ho (hr1.below (hb.mono hB2)) (by have := hb.size; omega) hoc hod
  obtain ⟨fo, Hfo⟩ : ∃ fo, Hid (fo = frameD r.m ⟨kind, on_, flags, odd, data, at_, word⟩) := ⟨_, Lib.hid rfl⟩
  rw [← Hfo.out] at hfr13
  clear hD hR hcl hFD hGD hdj
  unfold opVal at *
  simp only at hfr13
  have hge : ¬ ((fr : Nat) : Int) < 0 := by omega
  have hlt : ((fr : Nat) : Int) < (nR : Int) := by omega
  go_upto_region 13 with fail
  replace hO := hO.drew
  replace hT1 := hT1.below (Below.refl W2.heap.size W2).drew
  have hb2 := (Below.refl W2.heap.size W2).drew
  go_wp2_with fail
  go_region_held (fun w' => w'.cell? ⟨z, 4, none⟩ = some (.slice (some rad) nR cr) ∧ w'.cell? (rad.add fr) = some (.pointer (some ⟨q.b, 0, none⟩)) ∧ w'.cell? ⟨o0, 1, none⟩ = some (.int .i64 kind) ∧ w'.cell? ⟨o0, 2, none⟩ = some (.int .i64 on_) ∧ w'.cell? ⟨o0, 3, none⟩ = some (.int .i64 flags) ∧ w'.cell? ⟨o0, 4, none⟩ = some (.bool odd) ∧ w'.cell? ⟨o0, 5, none⟩ = some (.slice A data.length c) ∧ w'.cell? ⟨o0, 6, none⟩ = some (.int .i64 at_) ∧ w'.cell? ⟨o0, 7, none⟩ = some (.int .u32 word)) (with_reducible (exact muxFrS hT1 hQq hO)) (
    (go_at_call 19; refine (hfr13 _ hb2).mono ?_; rintro e W3 ⟨v3, rfl, hn3, hs3, hb3⟩; replace hO := hO.below hb3 hO.lt; replace hT1 := hT1.below hb3; replace hb2 := hb2.trans (hb3.mono hb2.size)))
  have h2 := h1.below hb2
  have hr2 := hr1.below (hb2.mono hB2)
  have hbw := hbO.trans (hb2.mono hs2)
  have hsz := hb2.size
  have hFlo := HW.out.h.prog.lo
  have hGlo := HW.out.h.ref.lo
  clear h1 hr1 hfr13
  cases fo with
  | some f =>
    have hown := hs3 f rfl
    have hf := frameD_len Hfo.out.symm hod
    have hbase : ∀ g, (Value.ownBlock v3 = some g) → W2.heap.size ≤ g := fun g hg => (hown.lt g hg).1
    clear hn3 hs3 hO hr2
    obtain ⟨A3, c3, rfl⟩ := own_slice hown
    obtain ⟨cd', er, bs, R', Q', lost', hBoth, hp, hq⟩ := h2.recv hk f
    obtain ⟨i0, hi0, hz0, hz1, hz2⟩ := info_parts byte_info
    go_upto_region 15 with fail
    go_wp2_with fail
    go_region_held3 (fun w' => w'.cell? ⟨z, 0, none⟩ = some (.pointer (some ⟨x, 0, none⟩))) (with_reducible (first | exact muxZ0 hT1.blk | exact muxZ0 (hT1.blk.alloc _) | exact muxZ0 hT1.blk.drew | exact muxZ0 (hT1.blk.alloc _).drew)) (first
      | (refine step_append_any _ rfl (.tmp 96) (.tmp 97) _ rfl W3.heap.size 5 i0 _ 1 1 Tryz.underlying22 hi0 hz0 hz1 hz2 rfl (by omega) (.slice (some ⟨W3.heap.size, 0, none⟩) 0 0) 0 [] rfl (World.ownsRow_made W3 #[] 0 (Nat.le_refl _) (by unfold maxLen; omega) rfl).drew W3.heap.size A3 f.length c3 (u8c f) rfl ((Reads.of_own hown).alloc (Nat.le_refl _) _).drew (u8c_one f) (by unfold maxLen; omega) (by omega) (by simp) ?_; intro v4 W4 hown4 hg4 hat4; rw [Nat.zero_add, List.nil_append] at hown4; obtain ⟨A4, c4, rfl⟩ := own_slice hown4; have hb4 := ((Below.refl W3.heap.size W3).alloc (Nat.le_refl _) (.cells #[] 5)).drew.grown hg4 (by simp) (fun k hk => by simp [Value.ownBlock] at hk; omega); replace hT1 := hT1.below hb4)
      | (go_at_call 35; refine (hp _ A4 f.length c4 _ (h2.h.prog.below hb4) hown4 (fun g hg hf => by have e1 := (hown4.lt g hg).1; have e2 := (h2.h.prog.lo g hf).2; omega) hf).mono ?_; rintro e W5 ⟨v5, rfl, hown5, t5⟩; replace hT1 := hT1.keepS t5.keep (fun g hu hf => h2.h.uf g hu hf)))
    have hb4s := hb4.size
    have hH5 := (h2.h.below hb4).onProg t5 hBoth.likes.a hBoth.likes.ma
    have hown5b := ownsRow_keep (own_below hown hb4) t5.keep (fun g hg hf => by have e1 := hbase g hg; have e2 := (hFlo g hf).2; omega)
    have hs5 := t5.keep.size
    have hdr : W2.drew.heap.size = W2.heap.size := rfl
    have hcall := hq _ A3 f.length c3 _ hH5.ref hown5b (fun g hg hf => by have e1 := hbase g hg; have e2 := (hGlo g hf).2; omega) (by omega)
    have hbB := (hbw.mono hB).trans ((hb4.mono (show B ≤ W3.heap.size by omega)).trans (t5.keep.below (by omega) (fun g hg => (hFlo g hg).1)))
    obtain ⟨A5, c5, rfl⟩ := own_slice hown5
    have hcz := hT1.blk.cell
    clear hp hq hown4 hg4 hat4 hown hdr hb3 hb2 hown5b
    go_wp2_with fail
    refine hcall.mono ?_
    rintro e W6 ⟨v6, rfl, hown6, t6⟩
    obtain ⟨A6, c6, rfl⟩ := own_slice hown6
    have hH6 := hH5.onRef t6 hBoth.likes.b
    have hown5c := ownsRow_keep hown5 t6.keep (fun g hg hf => by have e1 := (hown5.lt g hg).1; have e2 := (hGlo g hf).2; omega)
    have hcv5 := conv_reads (c := c5) (Reads.of_own hown5c)
    have hcv6 := conv_reads (c := c6) (Reads.of_own hown6)
    have Hfin : Hid (StepAns B z x y R Q U k w W6) := Lib.hid ⟨R', Q', lost', _, _, hBoth.close _ _ _ hH6, hBoth.likes, hbB.trans (t6.keep.below (by omega) (fun g hg => (hGlo g hg).1))⟩
    clear hcall hH5 hH6 t5 t6 hown5 hown5c hown6 hbB hBoth hT1 hcz
    go_wp2_with fail
    go_ret
    exact ⟨rfl, Hfin.out⟩
  | none =>
    have hv := hn3 rfl
    subst hv
    clear hn3 hs3
    have hbB := hbw.mono hB
    have hlen : r.m.log.length < 1073741600 := by have := h2.used r (List.mem_of_getElem? hRr); omega
    have hoc := hO.cell
    by_cases k8 : kind = 8
    · subst k8
      go_upto_region 20 with fail
      clear hoc
      replace h2 := h2.below (Below.refl W3.heap.size W3).drew
      replace hT1 := hT1.below (Below.refl W3.heap.size W3).drew
      replace hO := hO.drew
      obtain ⟨FD, GD, hD, hR, hi2, hFD, hGD, hdj, hcl⟩ := h2.dev2 hRr hQq hqm hqs
      have hoF : ∀ g, FD g → g ≠ o0 := fun g hg e => by have h1 := (hFlo g (hFD g hg)).2; have h2 := Ho0.out; omega
      have hoG : ∀ g, GD g → g ≠ o0 := fun g hg e => by have h1 := (hGlo g (hGD g hg)).2; have h2 := Ho0.out; omega
      have huF : ∀ g, U g → ¬ FD g := fun g hu hf => h2.h.uf g hu (hFD g hf)
      have huG : ∀ g, U g → ¬ GD g := fun g hu hf => h2.h.ug g hu (hGD g hf)
      have hin := stepD_inv hi2 ⟨8, on_, flags, odd, data, at_, word⟩
      have hlg := stepD_log r.m ⟨8, on_, flags, odd, data, at_, word⟩
      rw [stepD_by, ← Hfo.out] at hin hlg
      have hin2 : ((r.m.tick on_).1).Inv := hin
      have hlg2 : ((r.m.tick on_).1).log.length ≤ r.m.log.length + 4 := hlg
      clear hin hlg
      go_wp2_with fail
      go_region_held (fun w' => w'.cell? ⟨z, 2, none⟩ = some (.slice (some dad) nR cd) ∧ w'.cell? ⟨z, 4, none⟩ = some (.slice (some rad) nR cr) ∧ w'.cell? (dad.add fr) = some (.pointer (some ⟨r.a, 0, none⟩)) ∧ w'.cell? (rad.add fr) = some (.pointer (some ⟨q.b, 0, none⟩)) ∧ w'.cell? ⟨o0, 2, none⟩ = some (.int .i64 on_)) (with_reducible (exact mux8S hT1 hRr hQq hO)) (first
        | (go_at_call 33; refine (devTick_any B r.a r.ma r.m FD on_ _ hD hi2 (by omega)).mono ?_; rintro e W4 ⟨rfl, t4⟩; replace hO := hO.keep t4.keep (fun h => hoF _ h rfl); replace hT1 := hT1.keepS t4.keep huF; replace hR := hR.keepS t4.keep (fun g hg hf => hdj g hf hg))
        | (go_at_call 34; refine (rdTick_any B q.b q.mb r.m GD on_ _ hR hi2 (by omega)).mono ?_; rintro e W5 ⟨rfl, t5⟩; replace hO := hO.keep t5.keep (fun h => hoG _ h rfl); replace hT1 := hT1.keepS t5.keep huG))
      have Hfin : Hid (StepAns B z x y R Q U k w W5) := Lib.hid (by
        obtain ⟨R', Q', l', F', G', a1, a2, a3⟩ := hcl W4 W5 _ t4 t5 hin2 (dtick_p r.m on_) hlg2
        exact ⟨R', Q', l', F', G', a1, a2, hbB.drew.trans a3⟩)
      clear hcl t4 t5 hD hR hT1 hO
      go_wp2_with fail
      go_ret
      exact ⟨rfl, Hfin.out⟩
    have g8 : (kind == 8) = false := by simpa using k8
    by_cases k10 : kind = 10
    · subst k10
      clear k8
      go_upto_region 22 with fail
      clear hoc
      replace h2 := h2.below (Below.refl W3.heap.size W3).drew
      replace hT1 := hT1.below (Below.refl W3.heap.size W3).drew
      replace hO := hO.drew
      obtain ⟨FD, GD, hD, hR, hi2, hFD, hGD, hdj, hcl⟩ := h2.dev2 hRr hQq hqm hqs
      have hoF : ∀ g, FD g → g ≠ o0 := fun g hg e => by have h1 := (hFlo g (hFD g hg)).2; have h2 := Ho0.out; omega
      have hoG : ∀ g, GD g → g ≠ o0 := fun g hg e => by have h1 := (hGlo g (hGD g hg)).2; have h2 := Ho0.out; omega
      have huF : ∀ g, U g → ¬ FD g := fun g hu hf => h2.h.uf g hu (hFD g hf)
      have huG : ∀ g, U g → ¬ GD g := fun g hu hf => h2.h.ug g hu (hGD g hf)
      have hin := stepD_inv hi2 ⟨10, on_, flags, odd, data, at_, word⟩
      have hlg := stepD_log r.m ⟨10, on_, flags, odd, data, at_, word⟩
      rw [stepD_by, ← Hfo.out] at hin hlg
      have hin2 : (r.m.ack.1).Inv := hin
      have hlg2 : (r.m.ack.1).log.length ≤ r.m.log.length + 4 := hlg
      clear hin hlg
      go_wp2_with fail
      go_region_held (fun w' => w'.cell? ⟨z, 2, none⟩ = some (.slice (some dad) nR cd) ∧ w'.cell? ⟨z, 4, none⟩ = some (.slice (some rad) nR cr) ∧ w'.cell? (dad.add fr) = some (.pointer (some ⟨r.a, 0, none⟩)) ∧ w'.cell? (rad.add fr) = some (.pointer (some ⟨q.b, 0, none⟩))) (with_reducible (exact mux10S hT1 hRr hQq)) (first
        | (go_at_call 65; refine (devAck_any B r.a r.ma r.m FD _ hD).mono ?_; rintro e W4 ⟨rfl, t4⟩; replace hO := hO.keep t4.keep (fun h => hoF _ h rfl); replace hT1 := hT1.keepS t4.keep huF; replace hR := hR.keepS t4.keep (fun g hg hf => hdj g hf hg))
        | (go_at_call 66; refine (rdAck_any B q.b q.mb r.m GD _ hR).mono ?_; rintro e W5 ⟨rfl, t5⟩; replace hO := hO.keep t5.keep (fun h => hoG _ h rfl); replace hT1 := hT1.keepS t5.keep huG))
      have Hfin : Hid (StepAns B z x y R Q U k w W5) := Lib.hid (by
        obtain ⟨R', Q', l', F', G', a1, a2, a3⟩ := hcl W4 W5 _ t4 t5 hin2 (dack_p r.m) hlg2
        exact ⟨R', Q', l', F', G', a1, a2, hbB.drew.trans a3⟩)
      clear hcl t4 t5 hD hR hT1 hO
      go_wp2_with fail
      go_ret
      exact ⟨rfl, Hfin.out⟩
    have g10 : (kind == 10) = false := by simpa using k10
    by_cases k11 : kind = 11
    · subst k11
      clear k8 k10
      go_upto_region 24 with fail
      clear hoc
      replace h2 := h2.below (Below.refl W3.heap.size W3).drew
      replace hT1 := hT1.below (Below.refl W3.heap.size W3).drew
      replace hO := hO.drew
      obtain ⟨FD, GD, hD, hR, hi2, hFD, hGD, hdj, hcl⟩ := h2.dev2 hRr hQq hqm hqs
      have hoF : ∀ g, FD g → g ≠ o0 := fun g hg e => by have h1 := (hFlo g (hFD g hg)).2; have h2 := Ho0.out; omega
      have hoG : ∀ g, GD g → g ≠ o0 := fun g hg e => by have h1 := (hGlo g (hGD g hg)).2; have h2 := Ho0.out; omega
      have huF : ∀ g, U g → ¬ FD g := fun g hu hf => h2.h.uf g hu (hFD g hf)
      have huG : ∀ g, U g → ¬ GD g := fun g hu hf => h2.h.ug g hu (hGD g hf)
      have hin := stepD_inv hi2 ⟨11, on_, flags, odd, data, at_, word⟩
      have hlg := stepD_log r.m ⟨11, on_, flags, odd, data, at_, word⟩
      rw [stepD_by, ← Hfo.out] at hin hlg
      have hin2 : ((r.m.reset on_).1).Inv := hin
      have hlg2 : ((r.m.reset on_).1).log.length ≤ r.m.log.length + 4 := hlg
      clear hin hlg
      go_wp2_with fail
      go_region_held (fun w' => w'.cell? ⟨z, 2, none⟩ = some (.slice (some dad) nR cd) ∧ w'.cell? ⟨z, 4, none⟩ = some (.slice (some rad) nR cr) ∧ w'.cell? (dad.add fr) = some (.pointer (some ⟨r.a, 0, none⟩)) ∧ w'.cell? (rad.add fr) = some (.pointer (some ⟨q.b, 0, none⟩)) ∧ w'.cell? ⟨o0, 2, none⟩ = some (.int .i64 on_)) (with_reducible (exact mux8S hT1 hRr hQq hO)) (first
        | (go_at_call 67; refine (devReset_any B r.a r.ma r.m FD on_ _ hD hi2 hon.2).mono ?_; rintro e W4 ⟨rfl, t4⟩; replace hO := hO.keep t4.keep (fun h => hoF _ h rfl); replace hT1 := hT1.keepS t4.keep huF; replace hR := hR.keepS t4.keep (fun g hg hf => hdj g hf hg))
        | (go_at_call 68; refine (rdReset_any B q.b q.mb r.m GD on_ _ hR hi2 hon.2).mono ?_; rintro e W5 ⟨rfl, t5⟩; replace hO := hO.keep t5.keep (fun h => hoG _ h rfl); replace hT1 := hT1.keepS t5.keep huG))
      have Hfin : Hid (StepAns B z x y R Q U k w W5) := Lib.hid (by
        obtain ⟨R', Q', l', F', G', a1, a2, a3⟩ := hcl W4 W5 _ t4 t5 hin2 (dreset_p r.m on_) hlg2
        exact ⟨R', Q', l', F', G', a1, a2, hbB.drew.trans a3⟩)
      clear hcl t4 t5 hD hR hT1 hO
      go_wp2_with fail
      go_ret
      exact ⟨rfl, Hfin.out⟩
    have g11 : (kind == 11) = false := by simpa using k11
    by_cases k12 : kind = 12
    · subst k12
      clear k8 k10 k11
      go_upto_region 26 with fail
      clear hoc
      replace h2 := h2.below (Below.refl W3.heap.size W3).drew
      replace hT1 := hT1.below (Below.refl W3.heap.size W3).drew
      replace hO := hO.drew
      obtain ⟨FD, GD, hD, hR, hi2, hFD, hGD, hdj, hcl⟩ := h2.dev2 hRr hQq hqm hqs
      have hoF : ∀ g, FD g → g ≠ o0 := fun g hg e => by have h1 := (hFlo g (hFD g hg)).2; have h2 := Ho0.out; omega
      have hoG : ∀ g, GD g → g ≠ o0 := fun g hg e => by have h1 := (hGlo g (hGD g hg)).2; have h2 := Ho0.out; omega
      have huF : ∀ g, U g → ¬ FD g := fun g hu hf => h2.h.uf g hu (hFD g hf)
      have huG : ∀ g, U g → ¬ GD g := fun g hu hf => h2.h.ug g hu (hGD g hf)
      have hin := stepD_inv hi2 ⟨12, on_, flags, odd, data, at_, word⟩
      have hlg := stepD_log r.m ⟨12, on_, flags, odd, data, at_, word⟩
      rw [stepD_by, ← Hfo.out] at hin hlg
      have hin2 : ({ r.m with m := (r.m.m.arm on_).1 }).Inv := hin
      have hlg2 : ({ r.m with m := (r.m.m.arm on_).1 }).log.length ≤ r.m.log.length + 4 := hlg
      clear hin hlg
      obtain ⟨⟨κ, A6, c6, vv6, val6, cb6, hR', hFR⟩, hloR⟩ := id hR
      have hbR := hR'.blk
      have hbF : GD q.b := hR.Fb
      clear hR'
      go_wp2_with fail
      go_region_held (fun w' => w'.cell? ⟨z, 3, none⟩ = some (.slice (some mad) nR cm) ∧ w'.cell? ⟨z, 4, none⟩ = some (.slice (some rad) nR cr) ∧ w'.cell? (mad.add fr) = some (.pointer (some ⟨r.ma, 0, none⟩)) ∧ w'.cell? (rad.add fr) = some (.pointer (some ⟨q.b, 0, none⟩)) ∧ w'.cell? ⟨o0, 2, none⟩ = some (.int .i64 on_) ∧ w'.cell? ⟨q.b, 5, none⟩ = some (.pointer (some ⟨q.mb, 0, none⟩))) (with_reducible (exact mux12S hT1 hRr hQq hO hbR)) (first
        | (go_at_call 69; refine (devArmTo_any B r.a r.ma r.m FD on_ _ hD hon.2).mono ?_; rintro e W4 ⟨rfl, t4⟩; replace hO := hO.keep t4.keep (fun h => hoF _ h rfl); replace hT1 := hT1.keepS t4.keep huF; replace hR := hR.keepS t4.keep (fun g hg hf => hdj g hf hg); replace hbR := hbR.keep t4.keep (fun h => hdj _ h hbF))
        | (go_at_call 70; refine (rdArm_any B q.b q.mb r.m GD on_ _ hR hon.2).mono ?_; rintro e W5 ⟨rfl, t5⟩; replace hO := hO.keep t5.keep (fun h => hoG _ h rfl); replace hT1 := hT1.keepS t5.keep huG; obtain ⟨⟨κ', A7, c7, vv7, val7, cb7, hR', hFR'⟩, hloR'⟩ := id t5.is_; clear hbR; have hbR := hR'.blk; clear hR'))
      have Hfin : Hid (StepAns B z x y R Q U k w W5) := Lib.hid (by
        obtain ⟨R', Q', l', F', G', a1, a2, a3⟩ := hcl W4 W5 _ t4 t5 hin2 (rfl) hlg2
        exact ⟨R', Q', l', F', G', a1, a2, hbB.drew.trans a3⟩)
      clear hcl t4 t5 hD hR hT1 hO
      go_wp2_with fail
      go_ret
      exact ⟨rfl, Hfin.out⟩
    have g12 : (kind == 12) = false := by simpa using k12
    clear k8 k10 k11 k12
    have Hfin : Hid (StepAns B z x y R Q U k w W3) := Lib.hid ⟨R, Q, lost, F, G, h2.more, Likes.refl R Q, hbB⟩
    go_wp2_with fail
    go_ret
    exact ⟨rfl, Hfin.out⟩
end Go.Proofs.YtlldgfejcjnpkaaGreat
