/- The contract of mux.Receive. -/
import Derived.Test.YtlldgfejcjnpkaaGreatCMuxP
import Derived.Test.YtlldgfejcjnpkaaGreatCDFlagM
set_option linter.unusedVariables false
namespace Go.Proofs.YtlldgfejcjnpkaaGreat
open Go.RowKit
set_option maxHeartbeats 10000000
set_option maxRecDepth 100000

theorem dreceive_p {m : DevM} (hi : m.Inv) (l : List UInt8) : (m.receive l).1.p = m.p := by
  by_cases h6 : m.state = 6
  · rw [down_receive l h6]
  · exact (DevM.fans_receive hi h6 l).p
def portCells (a s : Nat) : Array Value := #[.pointer (some ⟨a, 0, none⟩), .pointer (some ⟨s, 0, none⟩)]
theorem muxReceive_ok (B x : Nat) (R : List PRow) (lost : Int) (F : Nat → Prop) (A : Option Addr) (n c Br : Nat) (l : List UInt8) (w : World) (hM : MuxIs B w x R lost F) {i : Nat} {r : PRow} (hri : R[i]? = some r) (hs : 0 ≤ r.seen ∧ r.seen < 4294967295) (hlen : r.m.log.length < 1073741800)
    (he : (decodeM l).2 = 0) (hcode : r.code = (decodeM l).1.code) (hr : w.ownsRow Br 5 1 (.slice A n c) n (u8c l)) (hAF : ∀ y, (Value.slice A n c).ownBlock = some y → ¬ F y) (hn : n ≤ 140737488351232) :
    Calls Tryz.prog 35 #[.pointer (some ⟨x, 0, none⟩), .slice A n c] w fun e w' => ∃ v, e = .returned (.tuple #[.int .u32 r.code, v, .int .i64 (r.m.receive l).2.2]) ∧ w'.ownsRow w.heap.size 5 1 v (r.m.receive l).2.1.length (u8c (r.m.receive l).2.1) ∧ MuxTo B w x (R.set i { r with m := (r.m.receive l).1, seen := r.seen + 1 }) lost F w' := by
  have hc := own_cap hr
  have hdec := unitDecode_any A n c w.heap.size l w (Reads.of_own hr) (Nat.le_refl _) hc hn
  obtain ⟨⟨κ, mp, bl, hM, hF⟩, hlo⟩ := hM
  have hin := (hM.dev i r hri).2.receive l
  have hpp := dreceive_p (hM.dev i r hri).2 l
  have hrv := fun (W : World) (h : MuxAt B W x (R.set i { r with seen := r.seen + 1 }) lost κ mp bl) (hr : Reads W W.heap.size 1 A n (u8c l)) =>
    devReceive_any B r.a r.ma r.m (Of κ (2 * i + 11)) A n c W.heap.size l W (h.dev i { r with seen := r.seen + 1 } (by rw [List.getElem?_set]; simp [(List.getElem?_eq_some_iff.1 hri).1])).1 (hM.dev i r hri).2 hlen hr (Nat.le_refl _) hc hn
  generalize hq : r.m.receive l = q at *
  have Hhr := Lib.hid hr
  generalize decodeM l = d at *
  obtain ⟨⟨kind, code, session, number, flags, data⟩, er⟩ := d
  simp only at he hcode hdec
  subst he hcode
  obtain ⟨q1, q2, q3⟩ := q
  simp only at *
  go_enter Tryz.func35, Tryz.ntmps35
  go_wp2_with fail
  refine hdec.mono ?_
  rintro e w1 ⟨v, rfl, hown, hb1⟩
  obtain ⟨Av, cv, rfl⟩ := own_slice hown
  unfold unitVal
  simp only
  have hbU := (Below.refl w1.heap.size w1).alloc (Nat.le_refl _) (.cells #[.int .i64 kind, .int .u32 r.code, .int .u32 session, .int .u32 number, .int .i64 flags, .slice Av data.length cv] 64)
  have hU := Blk.new w1 64 #[.int .i64 kind, .int .u32 r.code, .int .u32 session, .int .u32 number, .int .i64 flags, .slice Av data.length cv]
  have hb2 := hb1.trans (hbU.mono hb1.size)
  have hM2 := hM.below hb2
  have hr2 := own_below Hhr.out hb2
  have hs2 := hb2.size
  have HM := Lib.hid hM
  have hs1 := hb1.size
  have hslt : r.s < w.heap.size := (hM.lo r.s (by rw [show κ r.s = _ from (hM.seen i r hri).2]; simp)).2
  clear hr hdec hown hbU hb1 hM
  go_upto_region 4 with fail
  obtain ⟨gU, HgU⟩ : ∃ g, Hid (g = w1.heap.size) := ⟨_, Lib.hid rfl⟩
  rw [← HgU.out] at hU ⊢
  generalize w1.alloc (.cells _ 64) = W at *
  have hcx := hM2.blk.cell
  have hcU := hU.cell
  have hmd := hM2.map
  have hbz := fun (W' : World) (h : MapG.MapIs .u32 W' mp (R.map PRow.port)) => h.run_lookup2 (P := Tryz.prog) Tryz.underlying154 Tryz.underlying34 (zero_port W') r.code
  rw [lk_port hM2.codes hri] at hbz
  simp only [Option.getD_some, Option.isSome_some] at hbz
  have hZ := Blk.new W 160 #[.pointer none, .pointer none]
  have hm1 := hmd.keep (w' := W.drew) ((Keep.refl (fun _ => False) W).drew) (fun h => h)
  have hm2 := hmd.keep (w' := (W.alloc (.cells #[.pointer none, .pointer none] 160)).drew) (((Keep.refl (fun _ => False) W).alloc _).drew) (fun h => h)
  have hl1 := hbz _ hm1
  have hl2 := hbz _ hm2
  have hcx2 := ((hM2.blk.alloc (.cells #[.pointer none, .pointer none] 160)).drew).cell
  have hcU2 := ((hU.alloc (.cells #[.pointer none, .pointer none] 160)).drew).cell
  have hcZ2 := hZ.drew.cell
  have hfZ2 := hZ.drew.frozen
  clear hbz hm1 hm2
  go_wp2_with fail
  go_region
  all_goals
    (clear hl1 hl2 hcx2 hcU2 hcZ2 hfZ2 hcx hcU hZ hmd
     have hP := Blk.new W 160 (portCells r.a r.s)
     have hbP := ((Below.refl W.heap.size W).alloc (Nat.le_refl _) (.cells (portCells r.a r.s) 160)).drew
     have hPd := hP.drew
     have hM3 := hM2.below hbP
     have hU3 := hU.below hbP hU.lt
     have hr3 := own_below hr2 hbP
     have hb3 := hb2.trans (hbP.mono hs2)
     have hsz3 := hbP.size
     obtain ⟨gP, HgP⟩ : ∃ g, Hid (g = W.heap.size) := ⟨_, Lib.hid rfl⟩
     unfold portCells at hPd hM3 hU3 hr3 hb3 hsz3
     clear hP hbP hM2 hU hr2 hb2
     rw [← HgP.out] at hPd ⊢
     generalize (W.alloc (.cells #[.pointer (some ⟨r.a, 0, none⟩), .pointer (some ⟨r.s, 0, none⟩)] 160)).drew = W3 at *
     have hcP := hPd.cell
     have hadd := meterAdd_one r.s r.seen none W3 hs.1 (by omega) (hM3.seen i r hri).1
     have hM4 := hM3.onSeen hri (r.seen + 1)
     have hgs : Of κ (2 * i + 10) r.s := (hM3.seen i r hri).2
     have hAs : ∀ y, (Value.slice A n c).ownBlock = some y → ¬ y = r.s := fun y hy e => hAF y hy (hF y (by rw [e, show κ r.s = _ from hgs]; simp))
     have hkS : Keep (fun y => y = r.s) W3 (W3.setCell ⟨r.s, 0, none⟩ (.int .u64 (r.seen + 1))) := (Keep.refl (fun y => y = r.s) W3).setCell (p := ⟨r.s, 0, none⟩) (fun _ => rfl) _
     have hr4 := ownsRow_keep hr3 hkS hAs
     have hP4 := hPd.keep hkS (by have := HgP.out; omega)
     have hU4 := hU3.keep hkS (by have := HgU.out; omega)
     have hcall := hrv _ hM4 (Reads.of_own hr4)
     go_wp2_with fail
     refine hadd.mono ?_
     rintro e w4 ⟨rfl, rfl⟩
     have hs4 : (W3.setCell ⟨r.s, 0, none⟩ (.int .u64 (r.seen + 1))).heap.size = W3.heap.size := by simp
     generalize W3.setCell ⟨r.s, 0, none⟩ (.int .u64 (r.seen + 1)) = W4 at *
     clear hcP
     have hcP := hP4.cell
     unfold DevAns at hcall
     go_wp2_with fail
     refine hcall.mono ?_
     rintro e w5 ⟨v5, rfl, hv5, ht⟩
     have hU5 := hU4.keep ht.too.keep (fun h => by have h1 := (HM.out.lo gU (by rw [show κ gU = _ from h]; simp)).2; have h2 := HgU.out; omega)
     have hcU5 := hU5.cell
     go_wp2_with fail
     refine bodyPost_ret (v := .tuple #[.int .u32 r.code, v5, .int .i64 q3]) (by simp [results, Tryz.results35, go_sem]) rfl ⟨v5, rfl, ?_, ?_⟩)
  all_goals
    (have hs5 := ht.too.keep.size
     have hsw : w.heap.size ≤ W4.heap.size := by have := hb3.size; omega)
  all_goals first
    | exact own_base hv5 hsw
    | (have hset : (R.set i { r with seen := r.seen + 1 })[i]? = some { r with seen := r.seen + 1 } := by rw [List.getElem?_set]; simp [(List.getElem?_eq_some_iff.1 hri).1]
       have hM5 := hM4.onDev hset ht.too hin hpp
       rw [List.set_set] at hM5
       refine ⟨⟨⟨_, mp, bl, hM5, fun y hy => (paint_sub hF y hy).imp id (fun h => ⟨by omega, h.2⟩)⟩, fun y hy => ?_⟩, ((Keep.of_below hb3).trans (hkS.mono (fun y _ hy => hF y (by rw [hy, show κ r.s = _ from hgs]; simp)))).trans (ht.too.keep.mono (fun y _ hy => hF y (by rw [show κ y = _ from hy]; simp)))⟩
       have hB := HM.out.Ble
       rcases hy with hy | hy
       · have := hlo y hy; omega
       · omega)
theorem muxReceive_bad (B x : Nat) (R : List PRow) (lost : Int) (F : Nat → Prop) (A : Option Addr) (n c Br : Nat) (l : List UInt8) (w : World) (hM : MuxIs B w x R lost F) (hs : 0 ≤ lost ∧ lost < 4294967295)
    (he : (decodeM l).2 ≠ 0 ∨ ∀ r ∈ R, r.code ≠ (decodeM l).1.code) (hr : Reads w Br 1 A n (u8c l)) (hB : Br ≤ w.heap.size) (hc : n ≤ c) (hn : n ≤ 140737488351232) :
    Calls Tryz.prog 35 #[.pointer (some ⟨x, 0, none⟩), .slice A n c] w fun e w' => e = .returned (.tuple #[.int .u32 0, .slice none 0 0, .int .i64 (if (decodeM l).2 = 0 then 44 else (decodeM l).2)]) ∧ MuxTo B w x R (lost + 1) F w' := by
  have hdec := unitDecode_any A n c Br l w hr hB hc hn
  obtain ⟨⟨κ, mp, bl, hM, hF⟩, hlo⟩ := hM
  have hlk : ∃ pa ps ok, (MapG.lk (R.map PRow.port) (decodeM l).1.code).getD (.agg #[.pointer none, .pointer none]) = .agg #[.pointer pa, .pointer ps] ∧ (MapG.lk (R.map PRow.port) (decodeM l).1.code).isSome = ok ∧ ((decodeM l).2 = 0 → ok = false) := by
    by_cases hex : ∃ r ∈ R, r.code = (decodeM l).1.code
    · obtain ⟨r, hrm, hrc⟩ := hex
      obtain ⟨i, hi⟩ := List.getElem?_of_mem hrm
      have := lk_port hM.codes hi
      rw [hrc] at this
      rw [this]
      refine ⟨_, _, _, rfl, rfl, fun h0 => ?_⟩
      rcases he with h1 | h1
      · exact absurd h0 h1
      · exact absurd hrc (h1 r hrm)
    · rw [lk_port_none (fun r hr h => hex ⟨r, hr, h⟩)]
      exact ⟨_, _, _, rfl, rfl, fun _ => rfl⟩
  obtain ⟨pa, ps, ok, hl1, hl2, hl3⟩ := hlk
  clear he hr
  generalize decodeM l = d at *
  obtain ⟨⟨kind, code, session, number, flags, data⟩, er⟩ := d
  simp only at *
  obtain ⟨E, HE⟩ : ∃ E : Int, Hid (E = if er = 0 then 44 else er) := ⟨_, Lib.hid rfl⟩
  rw [← HE.out]
  go_enter Tryz.func35, Tryz.ntmps35
  go_wp2_with fail
  refine hdec.mono ?_
  rintro e w1 ⟨v, rfl, hown, hb1⟩
  obtain ⟨Av, cv, rfl⟩ := own_slice hown
  unfold unitVal
  simp only
  have hbU := (Below.refl w1.heap.size w1).alloc (Nat.le_refl _) (.cells #[.int .i64 kind, .int .u32 code, .int .u32 session, .int .u32 number, .int .i64 flags, .slice Av data.length cv] 64)
  have hU := Blk.new w1 64 #[.int .i64 kind, .int .u32 code, .int .u32 session, .int .u32 number, .int .i64 flags, .slice Av data.length cv]
  have hb2 := hb1.trans (hbU.mono hb1.size)
  have hM2 := hM.below hb2
  have hs2 := hb2.size
  have HM := Lib.hid hM
  clear hdec hown hbU hb1 hM
  go_upto_region 4 with fail
  obtain ⟨gU, HgU⟩ : ∃ g, Hid (g = w1.heap.size) := ⟨_, Lib.hid rfl⟩
  rw [← HgU.out] at hU ⊢
  generalize w1.alloc (.cells _ 64) = W at *
  have hcx := hM2.blk.cell
  have hcU := hU.cell
  have hmd := hM2.map
  have hbz := fun (W' : World) (h : MapG.MapIs .u32 W' mp (R.map PRow.port)) => h.run_lookup2 (P := Tryz.prog) Tryz.underlying154 Tryz.underlying34 (zero_port W') code
  rw [hl1, hl2] at hbz
  have hZ := Blk.new W 160 #[.pointer none, .pointer none]
  have hm1 := hmd.keep (w' := W.drew) ((Keep.refl (fun _ => False) W).drew) (fun h => h)
  have hm2 := hmd.keep (w' := (W.alloc (.cells #[.pointer none, .pointer none] 160)).drew) (((Keep.refl (fun _ => False) W).alloc _).drew) (fun h => h)
  have hk1 := hbz _ hm1
  have hk2 := hbz _ hm2
  have hcx2 := ((hM2.blk.alloc (.cells #[.pointer none, .pointer none] 160)).drew).cell
  have hcU2 := ((hU.alloc (.cells #[.pointer none, .pointer none] 160)).drew).cell
  have hcZ2 := hZ.drew.cell
  have hfZ2 := hZ.drew.frozen
  clear hbz hm1 hm2 hl1 hl2
  go_wp2_with fail
  go_region
  all_goals
    (clear hk1 hk2 hcx2 hcU2 hcZ2 hfZ2 hcx hcU hZ hmd
     have hbP := ((Below.refl W.heap.size W).alloc (Nat.le_refl _) (.cells #[.pointer pa, .pointer ps] 160)).drew
     have hM3 := hM2.below hbP
     have hb3 := hb2.trans (hbP.mono hs2)
     have hsz3 := hbP.size
     clear hbP hM2 hU hb2
     generalize (W.alloc (.cells #[.pointer pa, .pointer ps] 160)).drew = W3 at *
     have hadd := meterAdd_one bl lost none W3 hs.1 (by omega) hM3.lostB
     have hM4 := hM3.onLost (lost + 1)
     have hcx := hM3.blk.cell
     have hgs : Of κ 2 bl := hM3.kl
     have hkS : Keep (fun y => y = bl) W3 (W3.setCell ⟨bl, 0, none⟩ (.int .u64 (lost + 1))) := (Keep.refl (fun y => y = bl) W3).setCell (p := ⟨bl, 0, none⟩) (fun _ => rfl) _
     have hs4 : (W3.setCell ⟨bl, 0, none⟩ (.int .u64 (lost + 1))).heap.size = W3.heap.size := by simp
     have hto : MuxTo B w x R (lost + 1) F (W3.setCell ⟨bl, 0, none⟩ (.int .u64 (lost + 1))) := by
       refine ⟨⟨⟨κ, mp, bl, hM4, fun y hy => .inl (hF y hy)⟩, fun y hy => ?_⟩, (Keep.of_below hb3).trans (hkS.mono (fun y _ hy => hF y (by rw [hy, show κ bl = _ from hgs]; simp)))⟩
       have hB := HM.out.Ble
       rcases hy with hy | hy
       · have := hlo y hy; omega
       · omega)
  all_goals by_cases h0 : er = 0
  all_goals first
    | (subst h0
       obtain rfl := hl3 rfl
       go_wp2_with fail
       refine hadd.mono ?_
       rintro e w4 ⟨rfl, rfl⟩
       go_wp2_with fail
       refine bodyPost_ret (v := .tuple #[.int .u32 0, .slice none 0 0, .int .i64 44]) (by simp [results, Tryz.results35, go_sem]) rfl ⟨by simp [HE.out], hto⟩)
    | (have g0 : (er == 0) = false := by simpa using h0
       have g1 : (er != 0) = true := by simpa using h0
       clear hl3
       go_wp2_with fail
       refine hadd.mono ?_
       rintro e w4 ⟨rfl, rfl⟩
       go_wp2_with fail
       refine bodyPost_ret (v := .tuple #[.int .u32 0, .slice none 0 0, .int .i64 er]) (by simp [results, Tryz.results35, go_sem]) rfl ⟨by simp [HE.out, h0], hto⟩)
end Go.Proofs.YtlldgfejcjnpkaaGreat
