/- The law's shows (parapetlaw14.shows): both hosts show the same. -/
import Derived.Test.YtfoldlbnkfnenaaGreatCTwoB
import Derived.Test.YtfoldlbnkfnenaaGreatCRefLogB
import Derived.Deep.RegionHeld3
namespace Go.Proofs.YtfoldlbnkfnenaaGreat
open Go.RowKit
set_option maxHeartbeats 10000000
set_option maxRecDepth 100000

theorem showS {w : World} {b : Nat} {m : HostM} {lg vv val : Value} (h : Blk w b 96 (rhCells m lg vv val)) : w.cell? ⟨b, 0, none⟩ = some (.int .u32 m.p.code) ∧ w.cell? ⟨b, 5, none⟩ = some lg := ⟨(h.cell 0).trans rfl, (h.cell 5).trans rfl⟩
theorem l14shows_any (B a b : Nat) (m : HostM) (T : Nat → Prop) (w : World) (hT : Two B w a b m T) (hlen : m.log.length < 1073741600) :
    Calls Tryz.prog 32 #[.pointer (some ⟨a, 0, none⟩), .pointer (some ⟨b, 0, none⟩)] w fun e w' => e = .returned (.bool true) ∧ Below w.heap.size w w' := by
  have hlog := two_log hT hlen
  obtain ⟨F1, F2, hP, _⟩ := hT.pair
  have hI := hP.host
  obtain ⟨Al, cl, vv, val, hR⟩ := hP.ref
  have hi := hT.good.inv
  have hkl : (kept m.log).length < 1073741823 := by unfold kept; rw [List.length_drop]; omega
  have hsee := fun (W : World) (h : HostIs B W a m F1) => hostSee_any B a m F1 W h hi
  have hrse := fun (W : World) (h : RHAt B W b m F2 Al cl vv val) => rhSee_any B b m F2 W ⟨_, _, _, _, h⟩ hi
  have hsm := fun (A1 A2 : Option Addr) (c1 c2 : Nat) (W : World) h1 h2 => r13same_any m.see A1 A2 c1 c2 W.heap.size W h1 h2 (Nat.le_refl _)
  have hcode := fun (W : World) (h : HostIs B W a m F1) => hostCode_any B a m F1 W h
  have hrec := fun (W : World) (h : RHAt B W b m F2 Al cl vv val) => refRecords_any b 5 _ _ m.log _ W h.logIs (by omega)
  generalize m.see = em at *
  obtain ⟨st, ses, num, snt, snc, lat, req, on, out⟩ := em
  unfold endVal at *
  simp only at *
  clear hP hT
  go_enter Tryz.func32, Tryz.ntmps32
  go_wp2_with fail
  refine hlog.mono ?_
  rintro e w1 ⟨x1, rfl, hown1, hb1⟩
  obtain ⟨A1, c1, rfl⟩ := own_slice hown1
  have hI1 := (hI.below hb1).below (Below.refl w1.heap.size w1).drew
  have hR1 := (hR.below hb1).drew
  have hown1 := own_below hown1 (Below.refl w1.heap.size w1).drew
  have hB := hb1.drew
  clear hI hR hb1 hlog
  go_wp2_with fail
  go_region_held3 (fun w' => w'.cell? ⟨b, 0, none⟩ = some (.int .u32 m.p.code) ∧ w'.cell? ⟨b, 5, none⟩ = some (.slice Al m.log.length cl)) (exact showS hR1.blk) (first
    | (go_at_call 24; refine (hsee _ hI1).mono ?_; rintro e w2 ⟨x2, rfl, hown2, hb2⟩; obtain ⟨A2, c2, rfl⟩ := own_slice hown2; replace hI1 := hI1.below hb2; replace hR1 := hR1.below hb2; replace hown1 := own_below hown1 hb2; replace hB := hB.trans (hb2.mono hB.size); clear hb2)
    | (go_at_call 67; refine (hrse _ hR1).mono ?_; rintro e w3 ⟨x3, rfl, hown3, hb3⟩; obtain ⟨A3, c3, rfl⟩ := own_slice hown3; replace hI1 := hI1.below hb3; replace hR1 := hR1.below hb3; replace hown1 := own_below hown1 hb3; replace hown2 := own_below hown2 hb3; replace hB := hB.trans (hb3.mono hB.size); clear hb3)
    | (go_at_call 31; refine (hsm A2 A3 c2 c3 _ (Reads.of_own hown2) (Reads.of_own hown3)).mono ?_; rintro e w4 ⟨rfl, hb4⟩; replace hI1 := hI1.below hb4; replace hR1 := hR1.below hb4; replace hown1 := own_below hown1 hb4; replace hB := hB.trans (hb4.mono hB.size); clear hb4)
    | (go_at_call 69; refine (hrec _ hR1).mono ?_; rintro e w5 ⟨x5, rfl, hown5, hb5⟩; obtain ⟨A5, c5, rfl⟩ := own_slice hown5; replace hI1 := hI1.below hb5; replace hR1 := hR1.below hb5; replace hown1 := own_below hown1 hb5; replace hB := hB.trans (hb5.mono hB.size); clear hb5)
    | (go_at_call 68; refine (same_any A1 A5 _ c1 c5 _ (kept m.log) _ (Reads.of_own hown1) (Reads.of_own hown5) hkl).mono ?_; rintro e w6 ⟨rfl, k6, rfl⟩; replace hI1 := hI1.below (belowN (Below.refl _ _) k6); replace hR1 := hR1.below (belowN (Below.refl _ _) k6); replace hB := belowN hB k6)
    | (go_at_call 37; refine (hcode _ hI1).mono ?_; rintro e w7 ⟨rfl, rfl⟩))
  go_wp2_with fail
  go_ret
  exact ⟨rfl, hB⟩
end Go.Proofs.YtfoldlbnkfnenaaGreat
