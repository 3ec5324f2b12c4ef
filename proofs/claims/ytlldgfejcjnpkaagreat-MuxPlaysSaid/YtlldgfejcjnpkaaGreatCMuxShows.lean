/- parapetlaw16's shows: both muxes show the same. -/
import Derived.Test.YtlldgfejcjnpkaaGreatCMuxStep0
import Derived.Test.YtlldgfejcjnpkaaGreatBase33
import Derived.Deep.RegionHeld3
import Derived.Deep.RegionHeld
set_option linter.unusedVariables false
namespace Go.Proofs.YtlldgfejcjnpkaaGreat
open Go.RowKit
set_option maxHeartbeats 10000000
set_option maxRecDepth 100000

/-- What the round of shows reads. -/
structure ShowAt (w : World) (z x y n i : Nat) (r : PRow) (q : QRow) (vm vl vo : Value) (dad rad sad : Addr) (cd cr cs : Nat) : Prop where
  bz : Blk w z 78 #[.pointer (some ⟨x, 0, none⟩), .pointer (some ⟨y, 0, none⟩), .slice (some dad) n cd, vm, .slice (some rad) n cr]
  by_ : Blk w y 152 #[vl, .slice (some sad) n cs, vo]
  lt : dad.block < w.heap.size ∧ rad.block < w.heap.size ∧ sad.block < w.heap.size ∧ q.b < w.heap.size
  hd : w.cell? (dad.add i) = some (.pointer (some ⟨r.a, 0, none⟩))
  hq : w.cell? (rad.add i) = some (.pointer (some ⟨q.b, 0, none⟩))
  hs : w.cell? (sad.add i) = some (.int .i64 r.seen)
  hc : w.cell? ⟨q.b, 0, none⟩ = some (.int .u32 r.code)
theorem ShowAt.reads {w W : World} {z x y n i : Nat} {r : PRow} {q : QRow} {vm vl vo : Value} {dad rad sad : Addr} {cd cr cs : Nat} (h : ShowAt w z x y n i r q vm vl vo dad rad sad cd cr cs) (hB : Below w.heap.size w W) :
    W.cell? ⟨z, 0, none⟩ = some (.pointer (some ⟨x, 0, none⟩)) ∧ W.cell? ⟨z, 1, none⟩ = some (.pointer (some ⟨y, 0, none⟩)) ∧ W.cell? ⟨z, 2, none⟩ = some (.slice (some dad) n cd) ∧ W.cell? ⟨z, 4, none⟩ = some (.slice (some rad) n cr) ∧ W.cell? ⟨y, 1, none⟩ = some (.slice (some sad) n cs) ∧
      W.cell? (dad.add i) = some (.pointer (some ⟨r.a, 0, none⟩)) ∧ W.cell? (rad.add i) = some (.pointer (some ⟨q.b, 0, none⟩)) ∧ W.cell? (sad.add i) = some (.int .i64 r.seen) ∧ W.cell? ⟨q.b, 0, none⟩ = some (.int .u32 r.code) := by
  have hz := h.bz.below hB h.bz.lt
  have hy := h.by_.below hB h.by_.lt
  obtain ⟨l1, l2, l3, l4⟩ := h.lt
  exact ⟨(hz.cell 0).trans rfl, (hz.cell 1).trans rfl, (hz.cell 2).trans rfl, (hz.cell 4).trans rfl, (hy.cell 1).trans rfl, (hB.cell (by rw [block_of_add]; exact l1)).trans h.hd, (hB.cell (by rw [block_of_add]; exact l2)).trans h.hq, (hB.cell (by rw [block_of_add]; exact l3)).trans h.hs, (hB.cell l4).trans h.hc⟩
theorem show0 {w W : World} {z x y : Nat} {v2 v3 v4 vl vs vo : Value} (hz : Blk w z 78 #[.pointer (some ⟨x, 0, none⟩), .pointer (some ⟨y, 0, none⟩), v2, v3, v4]) (hy : Blk w y 152 #[vl, vs, vo]) (hB : Below w.heap.size w W) :
    W.cell? ⟨z, 0, none⟩ = some (.pointer (some ⟨x, 0, none⟩)) ∧ W.cell? ⟨z, 1, none⟩ = some (.pointer (some ⟨y, 0, none⟩)) ∧ W.cell? ⟨y, 2, none⟩ = some vo := by
  have hz' := hz.below hB hz.lt
  have hy' := hy.below hB hy.lt
  exact ⟨(hz'.cell 0).trans rfl, (hz'.cell 1).trans rfl, (hy'.cell 2).trans rfl⟩
section
variable {B k : Nat} {w : World} {z x y : Nat} {R : List PRow} {lost : Int} {Q : List QRow} {F G U : Nat → Prop}
theorem MuxW.cells (h : MuxW B w z x y R Q lost F G U k) : ∃ vd vm vl Ar cr As cs, Blk w z 78 #[.pointer (some ⟨x, 0, none⟩), .pointer (some ⟨y, 0, none⟩), vd, vm, .slice Ar R.length cr] ∧ Blk w y 152 #[vl, .slice As R.length cs, .int .i64 lost] ∧
    ∀ i r q, R[i]? = some r → Q[i]? = some q → q.m = r.m → q.seen = r.seen → ∃ dad rad sad cd, vd = .slice (some dad) R.length cd ∧ Ar = some rad ∧ As = some sad ∧ ShowAt w z x y R.length i r q vm vl (.int .i64 lost) dad rad sad cd cr cs := by
  have hql := h.qlen
  obtain ⟨vd, vm, vr, ht⟩ := h.h.tab
  obtain ⟨⟨κ, vl, vs, hM, hF⟩, hlo⟩ := h.h.ref
  obtain ⟨Ad, cd, rfl⟩ := own_slice ht.devs
  obtain ⟨Ar, cr, rfl⟩ := own_slice ht.refs
  obtain ⟨As, cs, rfl⟩ := own_slice hM.seen
  have hz := ht.blk
  have hy := hM.blk
  have hsr := hM.seen
  rw [List.length_map, List.length_map, hql] at hz
  rw [hql] at hy hsr
  refine ⟨_, _, _, _, _, _, _, hz, hy, fun i r q hr hq hm hs => ?_⟩
  have hil := (List.getElem?_eq_some_iff.1 hr).1
  obtain ⟨dad, rfl, e1, d1⟩ := ptrs_at ht.devs (by rw [List.length_map]; omega)
  obtain ⟨rad, rfl, e3, d3⟩ := ptrs_at ht.refs (by rw [List.length_map]; omega)
  obtain ⟨g, hg⟩ := own_some hsr (by omega)
  subst hg
  have hc := (hM.dev i q hq).1.code
  have hbl : q.b < w.heap.size := (hM.lo q.b (by rw [show κ q.b = _ from (hM.dev i q hq).1.Fb]; simp)).2
  refine ⟨dad, rad, ⟨g, 0, none⟩, cd, rfl, rfl, rfl, hz, hy, ⟨(h.h.ulo _ (ht.ud _ e1)).2, (h.h.ulo _ (ht.ur _ e3)).2, (hsr.lt g rfl).2, hbl⟩, d1 i r.a (by rw [List.getElem?_map, hr]; rfl), d3 i q.b (by rw [List.getElem?_map, hq]; rfl), ?_, ?_⟩
  · have h1 := hsr.cellAt i (by omega)
    rw [show (⟨g, 0, none⟩ : Addr).add i = ⟨g, i, none⟩ from by unfold Addr.add; split <;> simp_all, h1, List.getElem?_map, hq]
    simp [qseen, hs]
  · rw [hc]; simp [QRow.code, PRow.code, hm]
end
theorem l16shows_any (B k z x y : Nat) (R : List PRow) (Q : List QRow) (lost : Int) (F G U : Nat → Prop) (w : World) (h : MuxW B w z x y R Q lost F G U k) (hk : k ≤ 1000000) :
    Calls Tryz.prog 43 #[.pointer (some ⟨z, 0, none⟩)] w fun e w' => e = .returned (.bool true) ∧ Below w.heap.size w w' := by
  obtain ⟨vd, vm, vl, Ar, cr, As, cs, hZ, hY, hrow⟩ := h.cells
  have h8 := h.len8
  have hl := h.lostk
  have hc1 := fun (W : World) (hB : Below w.heap.size w W) => muxCodes_any B x R lost F W (h.h.prog.below hB) h8
  have hc2 := fun (W : World) (hB : Below w.heap.size w W) => rmuxCodes_any B y Q lost G W (h.h.ref.below hB) (by rw [h.qlen]; exact h8)
  have ho1 := fun (W : World) (hB : Below w.heap.size w W) => muxOn_any B x R lost F W (h.h.prog.below hB) h8
  have ho2 := fun (W : World) (hB : Below w.heap.size w W) => rmuxOn_any B y Q lost G W (h.h.ref.below hB) (by rw [h.qlen]; exact h8)
  have hlo := fun (W : World) (hB : Below w.heap.size w W) => muxLost_any B x R lost F W (h.h.prog.below hB) (by omega)
  have hs0 := fun (W : World) (hB : Below w.heap.size w W) => muxSeen_none B x R lost F W (h.h.prog.below hB) 0 (fun r hr => by
    obtain ⟨i, hi⟩ := List.getElem?_of_mem hr
    obtain ⟨FD, _, hinv, _⟩ := h.h.prog.onDev hi
    have := hinv.plaw
    simp [ParM.lawful] at this
    exact this.1)
  have hle : ((Q.filter (fun q => q.m.see.on)).map QRow.code).length = ((sortI (R.map PRow.code)).filter (onAt R)).length := by rw [← h.ons, sortI_length]
  rw [h.codes, h.qlen] at hc2
  rw [h.ons, hle] at ho2
  obtain ⟨L1, HL1⟩ : ∃ L, Hid (L = sortI (R.map PRow.code)) := ⟨_, Lib.hid rfl⟩
  have hL1 : L1.length = R.length := by rw [HL1.out, sortI_length, List.length_map]
  rw [← HL1.out] at hc1 hc2 ho1 ho2
  have hL2 : (L1.filter (onAt R)).length ≤ R.length := by rw [← hL1]; exact List.length_filter_le _ _
  generalize L1.filter (onAt R) = L2 at *
  obtain ⟨n, Hn⟩ : ∃ n, Hid (n = R.length) := ⟨_, Lib.hid rfl⟩
  rw [← Hn.out] at hZ hY hrow h8 hc1 hc2 hL2
  have H := Lib.hid h
  have Hrow := Lib.hid hrow
  clear h hrow hle hL1 HL1
  obtain ⟨n2, hn2⟩ : ∃ n2, L2.length = n2 := ⟨_, rfl⟩
  rw [hn2] at ho1 ho2 hL2
  clear hn2
  go_enter Tryz.func43, Tryz.ntmps43
  go_upto_region 1 with fail
  have hB := (Below.refl w.heap.size w).drew
  have hfirst : True := trivial
  go_wp2_with fail
  go_region_held (fun w' => w'.cell? ⟨z, 0, none⟩ = some (.pointer (some ⟨x, 0, none⟩)) ∧ w'.cell? ⟨z, 1, none⟩ = some (.pointer (some ⟨y, 0, none⟩)) ∧ w'.cell? ⟨y, 2, none⟩ = some (.int .i64 lost)) (exact show0 hZ hY hB) (first
    | (go_at_call 28; refine (hc1 _ hB).mono ?_; rintro e w1 ⟨x1, rfl, hown1, hb1⟩; obtain ⟨A1, c1, rfl⟩ := own_slice hown1; replace hB := hB.trans (hb1.mono hB.size); clear hb1)
    | (go_at_call 86; refine (hc2 _ hB).mono ?_; rintro e w2 ⟨x2, rfl, hown2, hb2⟩; obtain ⟨A2, c2, rfl⟩ := own_slice hown2; replace hown1 := own_below hown1 hb2; replace hB := hB.trans (hb2.mono hB.size); clear hb2)
    | (go_at_call 30; clear hfirst; refine (equal32_any A1 A2 n c1 c2 _ L1 _ (Reads.of_own hown1) (Reads.of_own hown2) (by omega)).mono ?_; rintro e w3 ⟨rfl, k3, rfl⟩; replace hB := belowN hB k3)
    | (go_at_call 41; refine (ho1 _ hB).mono ?_; rintro e w4 ⟨x4, rfl, hown4, hb4⟩; obtain ⟨A4, c4, rfl⟩ := own_slice hown4; replace hB := hB.trans (hb4.mono hB.size); clear hb4)
    | (go_at_call 87; refine (ho2 _ hB).mono ?_; rintro e w5 ⟨x5, rfl, hown5, hb5⟩; obtain ⟨A5, c5, rfl⟩ := own_slice hown5; replace hown4 := own_below hown4 hb5; replace hB := hB.trans (hb5.mono hB.size); clear hb5)
    | (go_at_call 30; refine (equal32_any A4 A5 n2 c4 c5 _ L2 _ (Reads.of_own hown4) (Reads.of_own hown5) (by omega)).mono ?_; rintro e w6 ⟨rfl, k6, rfl⟩; replace hB := belowN hB k6)
    | (go_at_call 40; refine (hlo _ hB).mono ?_; rintro e w7 ⟨rfl, rfl⟩))
  clear hc1 hc2 ho1 ho2 hlo hown1 hown2 hown4 hown5 hL2 hl
  go_wp2_with fail
  go_loopg [3] n (fun q v3 wr => ∃ i : Nat, v3 = .int .i64 i ∧ i + q = n ∧ Below w.heap.size w wr)
  case atStart => exact ⟨0, rfl, by omega, hB⟩
  case round =>
    clear hB
    obtain ⟨i, rfl, hq, hB⟩ := hrel
    obtain ⟨Wr, rfl⟩ : ∃ W : World, W = wr := ⟨_, rfl⟩
    have Hq := Lib.hid hq
    clear hq
    by_cases hlt : i < n
    · have hr : R[i]? = some (R[i]'(by rw [← Hn.out]; exact hlt)) := List.getElem?_eq_getElem _
      generalize R[i]'(by rw [← Hn.out]; exact hlt) = r at hr
      obtain ⟨q, hq, hqm, hqs⟩ := H.out.at_ hr
      obtain ⟨dad, rad, sad, cd, rfl, rfl, rfl, hS⟩ := Hrow.out i r q hr hq hqm hqs
      have hcz := (hZ.below hB hZ.lt).cell
      obtain ⟨FD, hD, hi, _, _⟩ := H.out.h.prog.onDev hr
      obtain ⟨GD, hR, _, _, _⟩ := H.out.h.ref.onDev hq
      rw [hqm] at hR
      have hu := H.out.used r (List.mem_of_getElem? hr)
      have hseen := fun (W : World) (hB : Below w.heap.size w W) => muxSeen_any B x R lost F W (H.out.h.prog.below hB) hr (by omega)
      have hsee := fun (W : World) (hB : Below w.heap.size w W) => devSee_any B r.a r.ma r.m FD W (hD.below hB) hi
      have hrse := fun (W : World) (hB : Below w.heap.size w W) => rdSee_any B q.b q.mb r.m GD W (hR.below hB) hi
      have hsm := fun (A1 A2 : Option Addr) (c1 c2 : Nat) (W : World) h1 h2 => r13same_any r.m.see A1 A2 c1 c2 W.heap.size W h1 h2 (Nat.le_refl _)
      generalize r.m.see = em at *
      obtain ⟨st, ses, num, snt, snc, lat, req, on, out⟩ := em
      unfold endVal at *
      simp only at *
      have hlt' : ((i : Nat) : Int) < (n : Int) := by omega
      have hge : ¬ ((i : Nat) : Int) < 0 := by omega
      clear hD hR hi hu hqm hqs hq hr hs0
      go_upto_region 6 with fail
      clear hcz
      replace hB := hB.drew
      go_wp2_with fail
      go_region_held (fun W => W.cell? ⟨z, 0, none⟩ = some (.pointer (some ⟨x, 0, none⟩)) ∧ W.cell? ⟨z, 1, none⟩ = some (.pointer (some ⟨y, 0, none⟩)) ∧ W.cell? ⟨z, 2, none⟩ = some (.slice (some dad) n cd) ∧ W.cell? ⟨z, 4, none⟩ = some (.slice (some rad) n cr) ∧ W.cell? ⟨y, 1, none⟩ = some (.slice (some sad) n cs) ∧
      W.cell? (dad.add i) = some (.pointer (some ⟨r.a, 0, none⟩)) ∧ W.cell? (rad.add i) = some (.pointer (some ⟨q.b, 0, none⟩)) ∧ W.cell? (sad.add i) = some (.int .i64 r.seen) ∧ W.cell? ⟨q.b, 0, none⟩ = some (.int .u32 r.code)) (exact hS.reads hB) (first
        | (go_at_call 39; refine (hseen _ hB).mono ?_; rintro e w7 ⟨rfl, rfl⟩)
        | (go_at_call 22; refine (hsee _ hB).mono ?_; rintro e w8 ⟨x2, rfl, hown2, hb2⟩; obtain ⟨A2, c2, rfl⟩ := own_slice hown2; replace hB := hB.trans (hb2.mono hB.size); clear hb2)
        | (go_at_call 88; refine (hrse _ hB).mono ?_; rintro e w9 ⟨x3, rfl, hown3, hb3⟩; obtain ⟨A3, c3, rfl⟩ := own_slice hown3; replace hown2 := own_below hown2 hb3; replace hB := hB.trans (hb3.mono hB.size); clear hb3)
        | (go_at_call 36; refine (hsm A2 A3 c2 c3 _ (Reads.of_own hown2) (Reads.of_own hown3)).mono ?_; rintro e w10 ⟨rfl, hb4⟩; replace hB := hB.trans (hb4.mono hB.size); clear hb4))
      go_wp2_with fail
      go_roundg (n - (i + 1))
      case measure => have := Hq.out; omega
      case rel => have := Hq.out; exact ⟨i + 1, by go_num, by omega, hB⟩
    · have hge : ¬ ((i : Nat) : Int) < (n : Int) := by omega
      have hcz := (hZ.below hB hZ.lt).cell
      go_wp2_with fail
      refine (hs0 _ hB).mono ?_
      rintro e w9 ⟨rfl, rfl⟩
      go_wp2_with fail
      go_ret
      exact ⟨rfl, hB⟩
end Go.Proofs.YtlldgfejcjnpkaaGreat
