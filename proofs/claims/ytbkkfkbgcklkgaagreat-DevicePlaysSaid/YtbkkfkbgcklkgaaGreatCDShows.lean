/- The device's law's shows (parapetlaw13.shows): both devices show the same. -/
import Derived.Test.YtbkkfkbgcklkgaaGreatCDLaw
import Derived.Deep.RegionHeld3
import Derived.Deep.RegionHeld
namespace Go.Proofs.YtbkkfkbgcklkgaaGreat
open Go.RowKit
set_option maxHeartbeats 10000000
set_option maxRecDepth 100000

theorem RMemAt.below {w w' : World} {mb : Nat} {m : MemM} {F : Nat → Prop} {row : Value} {wr : Int} (h : RMemAt w mb m F row wr) (hb : Below w.heap.size w w') : RMemAt w' mb m F row wr := h.keep (S := fun _ => False) (Keep.of_below hb) (fun _ _ h => h) (fun _ h => h)
theorem showSD {w : World} {b mb cb cm : Nat} {m : DevM} {lg vv val : Value} {F : Nat → Prop} {Am : Option Addr} {wr : Int} (h : Blk w b 120 (rdCells m mb cb lg vv val)) (hM : RMemAt w mb m.m F (.slice Am m.m.b.length cm) wr) :
    w.cell? ⟨b, 0, none⟩ = some (.int .u32 m.p.code) ∧ w.cell? ⟨b, 5, none⟩ = some (.pointer (some ⟨mb, 0, none⟩)) ∧ w.cell? ⟨b, 8, none⟩ = some lg ∧ w.cell? ⟨mb, 0, none⟩ = some (.slice Am m.m.b.length cm) ∧ (convert 41 9 (.slice Am m.m.b.length cm)).run Tryz.prog w = .ok (.string ⟨m.m.b.toArray⟩) w :=
  ⟨(h.cell 0).trans rfl, (h.cell 5).trans rfl, (h.cell 8).trans rfl, (hM.blk.cell 0).trans rfl, conv_reads (Reads.of_own hM.bytes)⟩
theorem l13shows_any (B a ma b mb : Nat) (m : DevM) (T : Nat → Prop) (w : World) (hT : TwoD B w a ma b mb m T) (hlen : m.log.length < 1073741600) :
    Calls Tryz.prog 42 #[.pointer (some ⟨a, 0, none⟩), .pointer (some ⟨ma, 0, none⟩), .pointer (some ⟨b, 0, none⟩)] w fun e w' => e = .returned (.bool true) ∧ Below w.heap.size w w' := by
  have hlog := two_logD hT hlen
  have hi := hT.inv
  obtain ⟨F1, F2, hP, _⟩ := hT.pair
  have hI := hP.dev
  obtain ⟨⟨κ, Al, cl, vv, val, cb, hR, hFR⟩, hloR⟩ := hP.ref
  obtain ⟨row, wr, hM⟩ := hR.mem
  obtain ⟨Am, cm, rfl⟩ := own_slice hM.bytes
  have hkl : (kept m.log).length < 1073741823 := by unfold kept; rw [List.length_drop]; omega
  have hsee := fun (W : World) (h : DevIs B W a ma m F1) => devSee_any B a ma m F1 W h hi
  have hrse := fun (W : World) (h : RDAt B W b mb m κ Al cl vv val cb) => rdSee_any B b mb m (fun x => κ x ≠ none) W ⟨⟨_, _, _, _, _, _, h, fun _ h => h⟩, h.lo⟩ hi
  have hsm := fun (A1 A2 : Option Addr) (c1 c2 : Nat) (W : World) h1 h2 => r13same_any m.see A1 A2 c1 c2 W.heap.size W h1 h2 (Nat.le_refl _)
  have hcode := fun (W : World) (h : DevIs B W a ma m F1) => devCode_any B a ma m F1 W h
  have hbyt := fun (W : World) (h : DevIs B W a ma m F1) => (by obtain ⟨⟨κ', c', d', v', g', val', h', _⟩, _⟩ := h; exact memBytes_any ma m.m _ W h'.mem : Calls Tryz.prog 81 #[.pointer (some ⟨ma, 0, none⟩)] W fun e w' => ∃ x, e = .returned x ∧ w'.ownsRow W.heap.size 5 1 x m.m.b.length (u8c m.m.b) ∧ Below W.heap.size W w')
  have hrec := fun (W : World) (h : RDAt B W b mb m κ Al cl vv val cb) => refRecords_any b 8 _ _ m.log _ W h.logIs (by omega)
  generalize m.see = em at *
  obtain ⟨st, ses, num, snt, snc, lat, req, on, out⟩ := em
  unfold endVal at *
  simp only at *
  clear hP hT
  go_enter Tryz.func42, Tryz.ntmps42
  go_wp2_with fail
  refine hlog.mono ?_
  rintro e w1 ⟨x1, rfl, hown1, hb1⟩
  obtain ⟨A1, c1, rfl⟩ := own_slice hown1
  have hbd := hb1.drew
  have hI1 := hI.below hbd
  have hR1 := hR.below hbd
  have hM1 := hM.below hbd
  have hown1 := own_below hown1 (Below.refl w1.heap.size w1).drew
  have hB := hbd
  clear hI hR hb1 hlog hM
  go_wp2_with fail
  go_region_held (fun w' => w'.cell? ⟨b, 0, none⟩ = some (.int .u32 m.p.code) ∧ w'.cell? ⟨b, 5, none⟩ = some (.pointer (some ⟨mb, 0, none⟩)) ∧ w'.cell? ⟨b, 8, none⟩ = some (.slice Al m.log.length cl) ∧ w'.cell? ⟨mb, 0, none⟩ = some (.slice Am m.m.b.length cm) ∧ (convert 41 9 (.slice Am m.m.b.length cm)).run Tryz.prog w' = .ok (.string ⟨m.m.b.toArray⟩) w') (exact showSD hR1.blk hM1) (first
    | (go_at_call 21; refine (hsee _ hI1).mono ?_; rintro e w2 ⟨x2, rfl, hown2, hb2⟩; obtain ⟨A2, c2, rfl⟩ := own_slice hown2; replace hI1 := hI1.below hb2; replace hR1 := hR1.below hb2; replace hM1 := hM1.below hb2; replace hown1 := own_below hown1 hb2; replace hB := hB.trans (hb2.mono hB.size); clear hb2)
    | (go_at_call 78; refine (hrse _ hR1).mono ?_; rintro e w3 ⟨x3, rfl, hown3, hb3⟩; obtain ⟨A3, c3, rfl⟩ := own_slice hown3; replace hI1 := hI1.below hb3; replace hR1 := hR1.below hb3; replace hM1 := hM1.below hb3; replace hown1 := own_below hown1 hb3; replace hown2 := own_below hown2 hb3; replace hB := hB.trans (hb3.mono hB.size); clear hb3)
    | (go_at_call 22; refine (hsm A2 A3 c2 c3 _ (Reads.of_own hown2) (Reads.of_own hown3)).mono ?_; rintro e w4 ⟨rfl, hb4⟩; replace hI1 := hI1.below hb4; replace hR1 := hR1.below hb4; replace hM1 := hM1.below hb4; replace hown1 := own_below hown1 hb4; replace hB := hB.trans (hb4.mono hB.size); clear hb4)
    | (go_at_call 80; refine (hrec _ hR1).mono ?_; rintro e w5 ⟨x5, rfl, hown5, hb5⟩; obtain ⟨A5, c5, rfl⟩ := own_slice hown5; replace hI1 := hI1.below hb5; replace hR1 := hR1.below hb5; replace hM1 := hM1.below hb5; replace hown1 := own_below hown1 hb5; replace hB := hB.trans (hb5.mono hB.size); clear hb5)
    | (go_at_call 79; refine (same_any A1 A5 _ c1 c5 _ (kept m.log) _ (Reads.of_own hown1) (Reads.of_own hown5) hkl).mono ?_; rintro e w6 ⟨rfl, k6, rfl⟩; replace hI1 := hI1.below (belowN (Below.refl _ _) k6); replace hR1 := hR1.below (belowN (Below.refl _ _) k6); replace hM1 := hM1.below (belowN (Below.refl _ _) k6); replace hB := belowN hB k6)
    | (go_at_call 39; refine (hcode _ hI1).mono ?_; rintro e w7 ⟨rfl, rfl⟩)
    | (go_at_call 81; refine (hbyt _ hI1).mono ?_; rintro e w8 ⟨x8, rfl, hown8, hb8⟩; obtain ⟨A8, c8, hx8⟩ := own_slice hown8; subst hx8; have hcv8 := conv_reads (c := c8) (Reads.of_own hown8); replace hI1 := hI1.below hb8; replace hR1 := hR1.below hb8; replace hM1 := hM1.below hb8; replace hB := hB.trans (hb8.mono hB.size); clear hb8))
  go_wp2_with fail
  go_ret
  exact ⟨rfl, hB⟩
end Go.Proofs.YtbkkfkbgcklkgaaGreat
