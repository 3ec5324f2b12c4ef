/- The base of the laws, part 12: contracts and plain lemmas, no statement. -/
import Derived.Test.YtbkkfkbgcklkgaaGreatBase11
import Derived.Deep.RegionHeld3
import Derived.Deep.RegionHeld
/- The reference's device: latch, on, leave, answer. -/
namespace Go.Proofs.YtbkkfkbgcklkgaaGreat
open Go.RowKit
set_option maxHeartbeats 10000000
set_option maxRecDepth 100000

theorem rdS {w : World} {b mb cb : Nat} {m : DevM} {lg vv val : Value} (h : Blk w b 120 (rdCells m mb cb lg vv val)) : w.cell? ⟨b, 19, none⟩ = some (.int .u32 m.session) ∧ w.cell? ⟨b, 20, none⟩ = some (.int .u32 m.number) := ⟨(h.cell 19).trans rfl, (h.cell 20).trans rfl⟩
theorem keepB {b : Nat} {x : Value} {i : Nat} {w w' : World} (h : Keep (fun x => x = b) w w') : Keep (fun x => x = b) w (w'.setCell ⟨b, i, none⟩ x) := h.setCell (p := ⟨b, i, none⟩) (fun _ => rfl) x
theorem rdLatch_any (B b mb : Nat) (m : DevM) (F : Nat → Prop) (code : Int) (w : World) (hcode : code ≠ 0) (hI : RDIs B w b mb m F) (hlen : m.log.length < 1073741823) :
    Calls Tryz.prog 108 #[.pointer (some ⟨b, 0, none⟩), .int .i64 code] w fun e w' => e = .returned (.tuple #[]) ∧ RDTo B w b mb (m.trip code) F w' := by
  have hI0 := hI
  obtain ⟨⟨κ, A, c, vv, val, cb, hH, hF⟩, hlo⟩ := hI
  have hc := hH.blk.cell
  unfold rdCells at hc
  have htrip := rvTrip_any b 11 _ _ _ m.p.out m.valve vv w code hH.valveBlk rfl hcode
  have hnone : (m.valve.trip code).1.value = none := by unfold ValveM.trip; rw [if_neg hcode]
  have hk0 : ∀ w', Keep (fun x => x = b) w w' → Keep F w w' := fun w' h => h.mono (fun x _ e => e ▸ hI0.Fb)
  cases htr : (m.valve.trip code).2 with
  | false =>
    have e1 : m.trip code = { m with valve := (m.valve.trip code).1 } := by unfold DevM.trip; simp only [htr]; rfl
    rw [e1]
    rw [htr] at htrip
    clear e1
    go_enter Tryz.func108, Tryz.ntmps108
    go_wp2_with fail
    refine htrip.mono ?_
    rintro e w1 ⟨rfl, hv⟩
    go_wp2_with fail
    go_end0
    exact ⟨rfl, (hH.onValve hv (.inr ⟨rfl, hnone⟩)).toIs hI0 (fun x hx => .inl (hF x hx)) (hk0 _ hv.2.1)⟩
  | true =>
    have e1 : m.trip code = { m with valve := (m.valve.trip code).1, log := noteM m.log code m.session m.number } := by unfold DevM.trip; simp only [htr]; rfl
    rw [e1]
    rw [htr] at htrip
    clear e1
    go_enter Tryz.func108, Tryz.ntmps108
    go_wp2_with fail
    refine htrip.mono ?_
    rintro e w1 ⟨rfl, hv⟩
    have h1 := (hH.onValve hv (.inr ⟨rfl, hnone⟩)).drew
    have hk1 : Keep F w w1.drew := (hk0 _ hv.2.1).drew
    have hb1 := h1.blk
    have hl1 := h1.logIs
    have hs1 := hv.2.2
    clear hc htrip hv
    have hc := hb1.cell
    unfold rdCells at hc
    have Hs1 := Lib.hid hs1
    clear hs1
    go_wp2_with fail
    go_region_held3 (fun w' => w'.cell? ⟨b, 19, none⟩ = some (.int .u32 m.session) ∧ w'.cell? ⟨b, 20, none⟩ = some (.int .u32 m.number)) (exact ⟨(rdS hb1).1, (rdS hb1).2⟩) (first
      | (go_at_call 53; refine (refNote_any b 8 _ _ m.log _ code m.session m.number _ hl1 hlen).mono ?_; rintro e W ⟨rfl, ⟨v, hl2⟩, hk2⟩; obtain ⟨A2, c2, h2⟩ := h1.onLog hl2 (fun x hx => hx) hk2; clear hb1; have hb1 := h2.blk))
    go_wp2_with fail
    go_end0
    have hz := Hs1.out
    have hz1 : w1.drew.heap.size = w.heap.size := hz
    refine ⟨rfl, h2.toIs hI0 (fun x hx => ?_) (hk1.andThen hk2 (fun x _ hx => hx.elim (fun hx => hF x (h1.kl x hx).has) (fun hx => hx ▸ hI0.Fb)))⟩
    have := paint_sub hF x hx
    rcases this with h | h
    · exact .inl h
    · exact .inr (by omega)
theorem rdOn_any (B b mb : Nat) (m : DevM) (F : Nat → Prop) (w : World) (hI : RDIs B w b mb m F) (hfr : m.valve.fresh = true → m.valve.latched ≠ 0) :
    Calls Tryz.prog 102 #[.pointer (some ⟨b, 0, none⟩)] w fun e w' => e = .returned (.tuple #[]) ∧ RDTo B w b mb m.alive F w' := by
  have hI0 := hI
  obtain ⟨⟨κ, A, c, vv, val, cb, hH, hF⟩, hlo⟩ := hI
  have hb := hH.blk
  have hc := hb.cell
  have hf := hb.frozen
  unfold rdCells at hc
  have hk1 : Keep (fun x => x = b) w ((w.setCell ⟨b, 22, none⟩ (.int .i64 0)).setCell ⟨b, 10, none⟩ (.int .i64 0)) := keepB (keepB (Keep.refl _ w))
  have h1 : RDAt B ((w.setCell ⟨b, 22, none⟩ (.int .i64 0)).setCell ⟨b, 10, none⟩ (.int .i64 0)) b mb { m with odd := 0, since := 0 } κ A c vv val cb :=
    hH.upd hk1 (by simp [World.setCell]) (by simpa [rdCells] using (hb.set_ 22 (.int .i64 0)).set_ 10 (.int .i64 0)) rfl rfl rfl rfl rfl
  go_enter Tryz.func102, Tryz.ntmps102
  go_wp2_with fail
  refine (rvCome_any b 11 _ _ _ m.p.out m.valve vv _ h1.valveBlk rfl hfr).mono ?_
  rintro e w2 ⟨rfl, hv⟩
  have h2 := h1.onValve hv (.inl ⟨rfl, rfl⟩)
  go_wp2_with fail
  go_end0
  exact ⟨rfl, hH.toOwn hI0 hF h2 (hk1.trans hv.2.1)⟩
theorem rdLeave_any (B b mb : Nat) (m : DevM) (F : Nat → Prop) (s : Int) (w : World) (hI : RDIs B w b mb m F) :
    Calls Tryz.prog 146 #[.pointer (some ⟨b, 0, none⟩), .int .i64 s] w fun e w' => e = .returned (.tuple #[]) ∧ RDTo B w b mb (m.leave s) F w' := by
  have hI0 := hI
  obtain ⟨⟨κ, A, c, vv, val, cb, hH, hF⟩, hlo⟩ := hI
  have hc := hH.blk.cell
  unfold rdCells at hc
  have hrun := rvRun_any b 11 _ _ _ m.p.out m.valve vv w false hH.valveBlk rfl
  go_enter Tryz.func146, Tryz.ntmps146
  go_wp2_with fail
  refine hrun.mono ?_
  rintro e w1 ⟨rfl, hv⟩
  have h1 := hH.onValve hv (run_val m.valve false vv)
  have hk1 := hv.2.1
  clear hc hrun hv
  have hb := h1.blk
  have hc := hb.cell
  have hf := hb.frozen
  unfold rdCells at hc
  have hb2 := ((((hb.set_ 18 (.int .i64 s)).set_ 19 (.int .u32 0)).set_ 20 (.int .u32 0)).set_ 21 (.int .u32 0)).set_ 22 (.int .i64 0)
  have hk2 : Keep (fun x => x = b) w1 (((((w1.setCell ⟨b, 18, none⟩ (.int .i64 s)).setCell ⟨b, 19, none⟩ (.int .u32 0)).setCell ⟨b, 20, none⟩ (.int .u32 0)).setCell ⟨b, 21, none⟩ (.int .u32 0)).setCell ⟨b, 22, none⟩ (.int .i64 0)) := keepB (keepB (keepB (keepB (keepB (Keep.refl _ w1)))))
  have h2 : RDAt B (((((w1.setCell ⟨b, 18, none⟩ (.int .i64 s)).setCell ⟨b, 19, none⟩ (.int .u32 0)).setCell ⟨b, 20, none⟩ (.int .u32 0)).setCell ⟨b, 21, none⟩ (.int .u32 0)).setCell ⟨b, 22, none⟩ (.int .i64 0)) b mb (m.leave s) κ A c _ val cb :=
    h1.upd hk2 (by simp [World.setCell]) (by simpa [rdCells, DevM.leave] using hb2) rfl rfl rfl rfl rfl
  have T := hH.toOwn hI0 hF h2 (hk1.trans hk2)
  clear hb2 hk2 h2 h1 hk1
  have HT := Lib.hid T
  clear T
  go_wp2_with fail
  go_end0
  exact ⟨rfl, HT.out⟩
theorem rdAnswer_any (B b mb : Nat) (m : DevM) (F : Nat → Prop) (k n f : Int) (data : List UInt8) (A : Option Addr) (len cap Br : Nat) (w : World) (hI : RDIs B w b mb m F) (hi : m.Inv) (hlen : data.length = len) (hn : 0 ≤ n ∧ n < 4294967296) (hr : Reads w Br 1 A len (u8c data)) (hB : Br ≤ w.heap.size) :
    Calls Tryz.prog 103 #[.pointer (some ⟨b, 0, none⟩), .int .i64 k, .int .u32 n, .int .i64 f, .slice A len cap] w fun e w' => ∃ v, e = .returned v ∧ w'.ownsRow w.heap.size 5 1 v (m.frame k n f data).length (u8c (m.frame k n f data)) ∧ Below w.heap.size w w' := by
  subst hlen
  obtain ⟨⟨κ, A0, c0, vv, val, cb, hH, hF⟩, hlo⟩ := hI
  have hc := hH.blk.cell
  unfold rdCells at hc
  have henc := fun W (hb : Below w.heap.size w W) => r4encode_any ⟨k, m.p.code, m.session, n, f, data⟩ A cap Br W ⟨hi.pok.code, hi.session, hn⟩ (hr.below (hb.mono hB)) (Nat.le_trans hB hb.size)
  have hfr : m.frame k n f data = (UnitM.mk k m.p.code m.session n f data).encode := rfl
  rw [hfr]
  unfold unitVal at henc
  simp only at henc
  generalize (UnitM.mk k m.p.code m.session n f data).encode = fr at *
  generalize (UnitM.mk k m.p.code m.session n f data).lawful = law at *
  clear hr
  have hb1 := hH.blk.drew
  have hbd := (Below.refl w.heap.size w).drew
  have henc1 := henc w.drew hbd
  clear henc
  go_enter Tryz.func103, Tryz.ntmps103
  go_wp2_with fail
  go_region_held (fun w' => w'.cell? ⟨b, 0, none⟩ = some (.int .u32 m.p.code) ∧ w'.cell? ⟨b, 19, none⟩ = some (.int .u32 m.session)) (exact ⟨(hb1.cell 0).trans rfl, (hb1.cell 19).trans rfl⟩) (first
    | (go_at_call 60; refine henc1.mono ?_; rintro e w1 ⟨v, rfl, hown, hb2⟩; obtain ⟨Av, cv, rfl⟩ := own_slice hown; replace hb1 := hb1.below hb2 hb1.lt))
  go_wp2_with fail
  go_ret
  exact ⟨_, rfl, hown, hbd.trans hb2⟩
end Go.Proofs.YtbkkfkbgcklkgaaGreat
/- A device's flags, reply, offer, stuck, odds, begin. -/
namespace Go.Proofs.YtbkkfkbgcklkgaaGreat
open Go.RowKit
set_option maxHeartbeats 10000000
set_option maxRecDepth 100000

theorem devFlags_any (B a mb : Nat) (m : DevM) (N : Nat) (F : Nat → Prop) (w : World) (hI : DevIs B w a mb m F) (hN : m.p.out = (N : Int)) (hN8 : N ≤ 8) (hval : ∀ b, m.valve.value = some b → b.length = N) :
    Calls Tryz.prog 184 #[.pointer (some ⟨a, 0, none⟩)] w fun e w' => e = .returned (.int .i64 (flagsM m.valve m.hold)) ∧ Below w.heap.size w w' := by
  obtain ⟨⟨κ, c, d, v, g, val, hH, hF⟩, hlo⟩ := hI
  have hc := hH.blk.cell
  unfold devCells at hc
  have hv := hH.valve
  rw [hN] at hv
  have or_0_1 : bits .or .i64 0 1 = 1 := by kernel_rfl
  have or_0_2 : bits .or .i64 0 2 = 2 := by kernel_rfl
  have or_1_2 : bits .or .i64 1 2 = 3 := by kernel_rfl
  have or_0_4 : bits .or .i64 0 4 = 4 := by kernel_rfl
  have or_1_4 : bits .or .i64 1 4 = 5 := by kernel_rfl
  have or_2_4 : bits .or .i64 2 4 = 6 := by kernel_rfl
  have or_3_4 : bits .or .i64 3 4 = 7 := by kernel_rfl
  have or_0_8 : bits .or .i64 0 8 = 8 := by kernel_rfl
  have or_1_8 : bits .or .i64 1 8 = 9 := by kernel_rfl
  have or_2_8 : bits .or .i64 2 8 = 10 := by kernel_rfl
  have or_3_8 : bits .or .i64 3 8 = 11 := by kernel_rfl
  have or_4_8 : bits .or .i64 4 8 = 12 := by kernel_rfl
  have or_5_8 : bits .or .i64 5 8 = 13 := by kernel_rfl
  have or_6_8 : bits .or .i64 6 8 = 14 := by kernel_rfl
  have or_7_8 : bits .or .i64 7 8 = 15 := by kernel_rfl
  obtain ⟨fl, Hfl⟩ : ∃ x, Hid (x = flagsM m.valve m.hold) := ⟨_, Lib.hid rfl⟩
  rw [← Hfl.out]
  go_enter Tryz.func184, Tryz.ntmps184
  go_wp2_with fail
  refine (valveOutput_any v m.valve N _ w hv hN8 hval).mono ?_
  rintro e w1 ⟨x, rfl, hownx, hlx, hb1⟩
  have hv1 := hv.keep (F' := Of κ 2) (S := fun _ => False) (Keep.of_below hb1) (fun _ _ h => h) (fun _ h => h)
  have hc1 := ((hH.blk).below hb1 hH.blk.lt).cell
  unfold devCells at hc1
  obtain ⟨Ax, cx, rfl⟩ := own_slice hownx
  clear hc hownx hlx hval hv
  have hq := valveRequest_any v m.valve _ _ w1 hv1
  have hl := valveLatched_any v m.valve _ _ w1 hv1
  cases hon : m.valve.on <;> cases hrq : m.valve.request <;> cases hlt : (m.valve.latched != 0) <;> cases hho : m.hold
  all_goals
    rw [hrq] at hq
    rw [hho] at hc1
    go_wp2_with fail
    refine hq.mono ?_
    rintro e w2 ⟨rfl, rfl⟩
    go_wp2_with fail
    refine hl.mono ?_
    rintro e w2 ⟨rfl, rfl⟩
    go_wp2_with fail
    go_ret
    refine ⟨?_, hb1⟩
    have e1 : (m.valve.latched = 0) = (¬ (m.valve.latched != 0) = true) := by simp
    rw [Hfl.out]
    unfold flagsM
    simp only [hon, hrq, hho, e1, hlt]
    rfl
theorem devReply_any (B a mb : Nat) (m : DevM) (F : Nat → Prop) (k n : Int) (data : List UInt8) (A : Option Addr) (len cap Br : Nat) (w : World) (hI : DevIs B w a mb m F) (hi : m.Inv) (hlen : data.length = len) (hn : 0 ≤ n ∧ n < 4294967296) (hr : Reads w Br 1 A len (u8c data)) (hB : Br ≤ w.heap.size) :
    Calls Tryz.prog 164 #[.pointer (some ⟨a, 0, none⟩), .int .i64 k, .int .u32 n, .slice A len cap] w fun e w' => ∃ x, e = .returned x ∧ w'.ownsRow w.heap.size 5 1 x (m.frame k n (if k = 20 then flagsM m.valve m.hold else 0) data).length (u8c (m.frame k n (if k = 20 then flagsM m.valve m.hold else 0) data)) ∧ Below w.heap.size w w' := by
  have hI0 := hI
  obtain ⟨⟨κ, c, d, v, g, val, hH, hF⟩, hlo⟩ := hI
  have hc := hH.blk.cell
  unfold devCells at hc
  have hp8 := hi.p8
  obtain ⟨N, hN⟩ : ∃ N : Nat, m.p.out = (N : Int) := ⟨m.p.out.toNat, by omega⟩
  have hN8 : N ≤ 8 := by omega
  have hvv : ∀ b, m.valve.value = some b → b.length = N := fun b hb => by have := hi.vval b hb; omega
  obtain ⟨fl, Hfl⟩ : ∃ x, Hid (x = if k = 20 then flagsM m.valve m.hold else 0) := ⟨_, Lib.hid rfl⟩
  rw [← Hfl.out]
  obtain ⟨fr, Hfr⟩ : ∃ fr, Hid (fr = (UnitM.mk k m.p.code m.session n fl data).encode) := ⟨_, Lib.hid rfl⟩
  rw [show m.frame k n fl data = fr from Hfr.out.symm]
  have hb1 := hH.blk.drew
  have HN := Lib.hid hN
  have Hlen := Lib.hid hlen
  clear hN hp8 hlen
  go_enter Tryz.func164, Tryz.ntmps164
  go_wp2_with fail
  go_region_held3 (fun w' => w'.cell? ⟨a, 0, none⟩ = some (.int .u32 m.p.code) ∧ w'.cell? ⟨a, 12, none⟩ = some (.int .u32 m.session)) (first | exact ⟨(hb1.cell 0).trans rfl, (hb1.cell 12).trans rfl⟩ | exact ⟨((hb1.alloc _).cell 0).trans rfl, ((hb1.alloc _).cell 12).trans rfl⟩) (fail)
  have hU := (Blk.new w 68 #[.int .i64 k, .int .u32 m.p.code, .int .u32 m.session, .int .u32 n, .int .i64 0, .slice A len cap]).drew
  have hb2 : Below w.heap.size w (w.alloc (.cells #[.int .i64 k, .int .u32 m.p.code, .int .u32 m.session, .int .u32 n, .int .i64 0, .slice A len cap] 68)).drew := ((Below.refl _ w).alloc (Nat.le_refl _) _).drew
  have hI2 := hI0.below hb2
  have hr2 := hr.below (hb2.mono hB)
  obtain ⟨u, Hu⟩ : ∃ u, Hid (u = w.heap.size) := ⟨_, Lib.hid rfl⟩
  have hs1 : w.heap.size ≤ u := by have := Hu.out; omega
  rw [← Hu.out] at hU ⊢
  generalize (w.alloc (.cells #[.int .i64 k, .int .u32 m.p.code, .int .u32 m.session, .int .u32 n, .int .i64 0, .slice A len cap] 68)).drew = W2 at *
  have hul := hU.lt
  have huc := hU.cell
  have hs2 := hb2.size
  clear hc hb1
  have hok : (0 ≤ m.p.code ∧ m.p.code < 4294967296) ∧ (0 ≤ m.session ∧ m.session < 4294967296) := ⟨hi.pok.code, hi.session⟩
  by_cases hk : k = 20
  · subst hk
    have hfl : fl = flagsM m.valve m.hold := by rw [Hfl.out, if_pos rfl]
    subst hfl
    clear Hfl
    go_wp2_with fail
    refine (devFlags_any B a mb m N F W2 hI2 HN.out hN8 hvv).mono ?_
    rintro e W3 ⟨rfl, hb3⟩
    generalize flagsM m.valve m.hold = fl at *
    have hU3 := hU.below hb3 hul
    have hb3' := hb2.trans (hb3.mono hs2)
    have hU4 : Blk (W3.setCell ⟨u, 4, none⟩ (.int .i64 fl)) u 68 #[.int .i64 20, .int .u32 m.p.code, .int .u32 m.session, .int .u32 n, .int .i64 fl, .slice A len cap] := by simpa using hU3.set_ 4 (.int .i64 fl)
    have hb4 : Below w.heap.size w (W3.setCell ⟨u, 4, none⟩ (.int .i64 fl)) := hb3'.setCell (p := ⟨u, 4, none⟩) hs1 _
    have hr4 : Reads (W3.setCell ⟨u, 4, none⟩ (.int .i64 fl)) Br 1 A len (u8c data) := (hr2.below (hb3.mono (by omega))).setCell (p := ⟨u, 4, none⟩) (show Br ≤ u by omega) _
    clear huc
    have huc := hU3.cell
    have huf := hU3.frozen
    go_wp2_with fail
    have hs4 := hb4.size
    generalize W3.setCell ⟨u, 4, none⟩ (.int .i64 fl) = W4 at *
    have henc := unitEncode_at 20 m.p.code m.session n fl data A len cap Br W4 Hlen.out hok.1 hok.2 hn hr4 (by omega)
    rw [← Hfr.out] at henc
    refine henc.mono ?_
    rintro e W5 ⟨v5, er, rfl, hown5, hb5⟩
    obtain ⟨A5, c5, rfl⟩ := own_slice hown5
    go_wp2_with fail
    go_ret
    exact ⟨_, rfl, own_base hown5 hs4, hb4.trans (hb5.mono hs4)⟩
  · have hfl : fl = 0 := by rw [Hfl.out, if_neg hk]
    subst hfl
    have gk : (k == 20) = false := by simpa using hk
    clear Hfl
    go_wp2_with fail
    have henc := unitEncode_at k m.p.code m.session n 0 data A len cap Br W2 Hlen.out hok.1 hok.2 hn hr2 (by omega)
    rw [← Hfr.out] at henc
    refine henc.mono ?_
    rintro e W5 ⟨v5, er, rfl, hown5, hb5⟩
    obtain ⟨A5, c5, rfl⟩ := own_slice hown5
    go_wp2_with fail
    go_ret
    exact ⟨_, rfl, own_base hown5 hs2, hb2.trans (hb5.mono hs2)⟩
theorem devNone_any (B a mb : Nat) (m : DevM) (F : Nat → Prop) (k n : Int) (w : World) (hI : DevIs B w a mb m F) (hi : m.Inv) (hn : 0 ≤ n ∧ n < 4294967296) (hk : k ≠ 20) :
    Calls Tryz.prog 164 #[.pointer (some ⟨a, 0, none⟩), .int .i64 k, .int .u32 n, .slice none 0 0] w fun e w' => ∃ x, e = .returned x ∧ w'.ownsRow w.heap.size 5 1 x (m.frame k n 0 []).length (u8c (m.frame k n 0 [])) ∧ Below w.heap.size w w' := by
  have := devReply_any B a mb m F k n [] none 0 0 0 w hI hi rfl hn Reads.none_ (Nat.zero_le _)
  rwa [if_neg hk] at this
theorem devOffer_any (B a mb : Nat) (m : DevM) (F : Nat → Prop) (w : World) (hI : DevIs B w a mb m F) (hi : m.Inv) :
    Calls Tryz.prog 163 #[.pointer (some ⟨a, 0, none⟩)] w fun e w' => ∃ x, e = .returned x ∧ w'.ownsRow w.heap.size 5 1 x m.offer.length (u8c m.offer) ∧ Below w.heap.size w w' := by
  have hI0 := hI
  obtain ⟨⟨κ, c, d, v, g, val, hH, hF⟩, hlo⟩ := hI
  have hc := hH.blk.cell
  unfold devCells at hc
  have hsig := paramSignature_any m.p w hi.pok hi.plaw
  unfold parVal at hsig
  obtain ⟨of, Hof⟩ : ∃ of, Hid (of = m.offer) := ⟨_, Lib.hid rfl⟩
  rw [← Hof.out]
  go_enter Tryz.func163, Tryz.ntmps163
  go_wp2_with fail
  refine hsig.mono ?_
  rintro e W1 ⟨rfl, hb1⟩
  go_wp2_with fail
  refine (paramBytes_any (crcOf 0#32 m.p.bytes) W1).mono ?_
  rintro e W2 ⟨x2, rfl, hown2, hb2⟩
  obtain ⟨A2, c2, rfl⟩ := own_slice hown2
  have hb2' := hb1.trans (hb2.mono hb1.size)
  have hs2 := hb2'.size
  have hrep := devReply_any B a mb m F 17 0 m.p.sign A2 4 c2 W2.heap.size W2 (hI0.below hb2') hi (sign_length _) (by omega) (Reads.of_own hown2) (Nat.le_refl _)
  rw [if_neg (by decide)] at hrep
  rw [show m.frame 17 0 0 m.p.sign = of from Hof.out.symm] at hrep
  go_wp2_with fail
  refine hrep.mono ?_
  rintro e W3 ⟨x3, rfl, hown3, hb3⟩
  obtain ⟨A3, c3, rfl⟩ := own_slice hown3
  go_wp2_with fail
  go_ret
  exact ⟨_, rfl, own_base hown3 hs2, hb2'.trans (hb3.mono hs2)⟩
/-- What a call leaves of a device, apart from what it answers. -/
structure DevAp (B : Nat) (w : World) (a mb : Nat) (m : DevM) (F : Nat → Prop) (x : Value) (w' : World) : Prop where
  too : DevTo B w a mb m F w'
  ap : ∃ F' : Nat → Prop, DevIs B w' a mb m F' ∧ (∀ y, F' y → grow F w w' y) ∧ ∀ y, x.ownBlock = some y → ¬ F' y
/-- What a call that answers a frame leaves. -/
def DevAns (B : Nat) (w : World) (a mb : Nat) (F : Nat → Prop) (r : DevM × List UInt8 × Int) (e : Ending) (w' : World) : Prop :=
  ∃ x, e = .returned (.tuple #[x, .int .i64 r.2.2]) ∧ w'.ownsRow w.heap.size 5 1 x r.2.1.length (u8c r.2.1) ∧ DevAp B w a mb r.1 F x w'
theorem DevAp.end_ {B : Nat} {w w1 w2 : World} {a mb n : Nat} {m m1 : DevM} {F : Nat → Prop} {x : Value} {xs : List Value} (h0 : DevIs B w a mb m F) (t : DevTo B w a mb m1 F w1) (hb : Below w1.heap.size w1 w2) (hx : w2.ownsRow w1.heap.size 5 1 x n xs) : DevAp B w a mb m1 F x w2 := by
  have hs := t.keep.size
  have hs2 := hb.size
  refine ⟨DevTo.below h0 t hb, grow F w w1, t.is_.below hb, fun y hy => hy.imp id (fun h => ⟨h.1, by omega⟩), fun y hy hF => ?_⟩
  have := (hx.lt y hy).1
  rcases hF with hF | hF
  · have := (h0.lo y hF).2; omega
  · omega
theorem DevAp.nil_ {B : Nat} {w w1 : World} {a mb c n : Nat} {m1 : DevM} {F : Nat → Prop} (t : DevTo B w a mb m1 F w1) : DevAp B w a mb m1 F (.slice none n c) w1 :=
  ⟨t, grow F w w1, t.is_, fun _ h => h, fun y hy => by simp [Value.ownBlock] at hy⟩
theorem DevAp.trans {B : Nat} {w w1 w2 : World} {a mb : Nat} {m m1 m2 : DevM} {F : Nat → Prop} {x : Value} (h0 : DevIs B w a mb m F) (t : DevTo B w a mb m1 F w1) (h : DevAp B w1 a mb m2 (grow F w w1) x w2) : DevAp B w a mb m2 F x w2 := by
  obtain ⟨F', h1, h2, h3⟩ := h.ap
  exact ⟨DevTo.trans h0 t h.too, F', h1, fun y hy => grow_grow t.keep.size h.too.keep.size y (h2 y hy), h3⟩
theorem devStuck_any (B a mb : Nat) (m : DevM) (F : Nat → Prop) (w : World) (hI : DevIs B w a mb m F) (hi : m.Inv) (hlen : m.log.length < 1073741823) :
    Calls Tryz.prog 162 #[.pointer (some ⟨a, 0, none⟩)] w fun e w' => e = .returned (.bool m.strange.2) ∧ DevTo B w a mb m.strange.1 F w' := by
  have hI0 := hI
  obtain ⟨⟨κ, c, d, v, g, val, hH, hF⟩, hlo⟩ := hI
  have hb := hH.blk
  have hc := hb.cell
  have hf := hb.frozen
  unfold devCells at hc
  have hod := hi.odd
  by_cases hbz : m.state = 2 ∨ m.state = 3 ∨ m.state = 4
  · have hbu : m.busy = true := by unfold DevM.busy; simpa using hbz
    have hwr : IntKind.i64.wrap (m.odd + 1) = m.odd + 1 := IntWalk.i64_in _ (by omega)
    have hset : Blk (w.setCell ⟨a, 15, none⟩ (.int .i64 (m.odd + 1))) a 109 (devCells { m with odd := m.odd + 1 } mb c d v g val) := by simpa [devCells] using hb.set_ 15 (.int .i64 (m.odd + 1))
    have tA := hH.toUpd hI0 hF (keepA w) (by simp [World.setCell]) hset rfl rfl rfl rfl rfl rfl rfl
    by_cases h4 : m.odd + 1 < 4
    · have e1 : m.strange = ({ m with odd := m.odd + 1 }, false) := by unfold DevM.strange; simp only [hbu, Bool.not_true, Bool.false_eq_true, if_false]; rw [if_pos h4]
      rw [e1]
      clear e1 hbu
      rcases hbz with hs | hs | hs
      all_goals
        rw [hs] at hc
        go_enter Tryz.func162, Tryz.ntmps162
        go_wp2_with fail
        go_ret
        exact ⟨rfl, tA⟩
    · have Hq : Hid (m.strange = ((if m.state = 4 then ({ m with odd := m.odd + 1 } : DevM).trip 131 else { m with odd := m.odd + 1 }).leave 1, true)) := Lib.hid (by unfold DevM.strange; simp only [hbu, Bool.not_true, Bool.false_eq_true, if_false]; rw [if_neg h4])
      clear hbu
      have notrun : ∀ s, m.state = s → (s = 2 ∨ s = 3) → Calls Tryz.prog 162 #[.pointer (some ⟨a, 0, none⟩)] w fun e w' => e = .returned (.bool m.strange.2) ∧ DevTo B w a mb m.strange.1 F w' := by
        intro s hs hcase
        rw [Hq.out, if_neg (by omega)]
        rcases hcase with rfl | rfl
        all_goals
          rw [hs] at hc
          go_enter Tryz.func162, Tryz.ntmps162
          go_wp2_with fail
          refine (devLeave_any B a mb { m with odd := m.odd + 1 } _ 1 _ tA.is_).mono ?_
          rintro e w2 ⟨rfl, t2⟩
          go_wp2_with fail
          go_ret
          exact ⟨rfl, DevTo.trans hI0 tA t2⟩
      rcases hbz with hs | hs | hs
      · exact notrun 2 hs (.inl rfl)
      · exact notrun 3 hs (.inr rfl)
      · rw [Hq.out, if_pos hs]
        rw [hs] at hc
        clear notrun Hq
        go_enter Tryz.func162, Tryz.ntmps162
        go_wp2_with fail
        refine (devTrip_any B a mb { m with odd := m.odd + 1 } _ 131 _ (by decide) tA.is_ hlen).mono ?_
        rintro e w2 ⟨rfl, t2⟩
        have t12 := DevTo.trans hI0 tA t2
        go_wp2_with fail
        refine (devLeave_any B a mb (({ m with odd := m.odd + 1 } : DevM).trip 131) _ 1 _ t12.is_).mono ?_
        rintro e w3 ⟨rfl, t3⟩
        go_wp2_with fail
        go_ret
        exact ⟨rfl, DevTo.trans hI0 t12 t3⟩
  · have hbu : m.busy = false := by unfold DevM.busy; simpa using hbz
    have e1 : m.strange = (m, false) := by unfold DevM.strange; simp [hbu]
    rw [e1]
    have g2 : (m.state != 2) = true := by simp; omega
    have g3 : (m.state != 3) = true := by simp; omega
    have g4 : (m.state != 4) = true := by simp; omega
    have n2 : ¬ m.state = 2 := by omega
    have n3 : ¬ m.state = 3 := by omega
    have n4 : ¬ m.state = 4 := by omega
    clear hbz hbu e1
    go_enter Tryz.func162, Tryz.ntmps162
    go_wp2_with fail
    go_ret
    exact ⟨rfl, DevTo.refl hI0⟩
theorem devOdds_any (B a mb : Nat) (m : DevM) (F : Nat → Prop) (er : Int) (w : World) (hI : DevIs B w a mb m F) (hi : m.Inv) (hlen : m.log.length < 1073741823) :
    Calls Tryz.prog 139 #[.pointer (some ⟨a, 0, none⟩), .int .i64 er] w fun e w' => DevAns B w a mb F (m.odds er) e w' := by
  obtain ⟨q, Hq⟩ : ∃ q, Hid (q = m.strange) := ⟨_, Lib.hid rfl⟩
  have hst := devStuck_any B a mb m F w hI hi hlen
  have hqi := hi.strange
  have Ho : Hid (m.odds er = (q.1, q.1.none, er)) := Lib.hid (by rw [Hq.out]; rfl)
  rw [← Hq.out] at hst hqi
  rw [Ho.out]
  unfold DevAns
  clear Hq Ho
  obtain ⟨k, b⟩ := q
  simp only at *
  obtain ⟨fr, Hfr⟩ : ∃ fr, Hid (fr = k.none) := ⟨_, Lib.hid rfl⟩
  rw [← Hfr.out]
  go_enter Tryz.func139, Tryz.ntmps139
  go_wp2_with fail
  refine hst.mono ?_
  rintro e W1 ⟨rfl, t1⟩
  have hrep := devNone_any B a mb k _ 22 0 W1 t1.is_ hqi (by omega) (by decide)
  rw [show k.frame 22 0 0 [] = fr from Hfr.out.symm] at hrep
  go_wp2_with fail
  refine hrep.mono ?_
  rintro e W2 ⟨x2, rfl, hown2, hb2⟩
  obtain ⟨A2, c2, rfl⟩ := own_slice hown2
  go_wp2_with fail
  have hs1 := t1.keep.size
  refine bodyPost_ret (v := .tuple #[.slice A2 fr.length c2, .int .i64 er]) (by simp [results, Tryz.results139, go_sem]) rfl ⟨_, rfl, own_base hown2 hs1, DevAp.end_ hI t1 hb2 hown2⟩
end Go.Proofs.YtbkkfkbgcklkgaaGreat
/- A device's begin, asked, echoed, started. -/
namespace Go.Proofs.YtbkkfkbgcklkgaaGreat
open Go.RowKit
set_option maxHeartbeats 10000000
set_option maxRecDepth 100000

theorem dtrip_log (m : DevM) (code : Int) : (m.trip code).log.length ≤ m.log.length + 1 := by
  unfold DevM.trip
  simp only
  split <;> simp [noteM]
theorem strange_log (m : DevM) : m.strange.1.log.length ≤ m.log.length + 1 := by
  unfold DevM.strange
  split
  · simp
  · simp only
    split
    · simp
    · split
      · exact dtrip_log { m with odd := m.odd + 1 } 131
      · simp [DevM.leave]
theorem devBegin_any (B a mb : Nat) (m : DevM) (F : Nat → Prop) (w : World) (hI : DevIs B w a mb m F) (hi : m.Inv) (hlen : m.log.length < 1073741822) :
    Calls Tryz.prog 165 #[.pointer (some ⟨a, 0, none⟩)] w fun e w' => DevAns B w a mb F m.begin_ e w' := by
  have hI0 := hI
  obtain ⟨⟨κ, c, d, v, g, val, hH, hF⟩, hlo⟩ := hI
  have hc := hH.blk.cell
  unfold devCells at hc
  have hnx := cellNext_any c mb m.cell m.m (Of κ 5) w hH.mem hH.cell (fun x hx => (hH.inF hx).2) (hH.kc.ne (by decide)) hi.mem ⟨hi.cval.1, by rw [hi.cmax]; exact hi.mx.2⟩
  have hnc := next_cell m.cell m.m hi.cval.1 (by rw [hi.cmax]; exact hi.mx.2) hi.cval.2
  have hnl := next_len m.cell m.m
  have hne := next_err m.cell m.m
  obtain ⟨q, Hq⟩ : ∃ q, Hid (q = m.begin_) := ⟨_, Lib.hid rfl⟩
  have Hq1 : Hid (q = (if (m.cell.next m.m).2.2.2 = 80 then ((({ m with cell := (m.cell.next m.m).1, m := (m.cell.next m.m).2.1 } : DevM).trip 80).leave 5, ((({ m with cell := (m.cell.next m.m).1, m := (m.cell.next m.m).2.1 } : DevM).trip 80).leave 5).none, 80)
    else if (m.cell.next m.m).2.2.2 ≠ 0 then (({ m with cell := (m.cell.next m.m).1, m := (m.cell.next m.m).2.1 } : DevM).life 6, [], 70)
    else ({ (({ m with cell := (m.cell.next m.m).1, m := (m.cell.next m.m).2.1 } : DevM).leave 2) with session := (m.cell.next m.m).2.2.1 }, DevM.offer { (({ m with cell := (m.cell.next m.m).1, m := (m.cell.next m.m).2.1 } : DevM).leave 2) with session := (m.cell.next m.m).2.2.1 }, 0))) := Lib.hid (by rw [Hq.out]; rfl)
  rw [← Hq.out]
  have hcm := hi.cmax
  have hme := hi.mem
  generalize m.cell.next m.m = r at *
  obtain ⟨c', m', s, er⟩ := r
  simp only at hnx hnc hnl hne
  have hgi : ({ m with cell := c', m := m' } : DevM).Inv := { hi with cmax := by simp only; omega, cval := hnc.2.1, mem := by simp only; omega }
  clear Hq hcm hme hnl
  unfold DevAns
  rcases hne with rfl | rfl | rfl
  · have hq := Hq1.out
    rw [if_neg (by simp), if_neg (by simp)] at hq
    subst hq
    clear Hq1
    have hki : ({ (({ m with cell := c', m := m' } : DevM).leave 2) with session := s } : DevM).Inv := { hgi.leave 2 (by omega) with session := hnc.2.2 }
    obtain ⟨of, Hof⟩ : ∃ of, Hid (of = DevM.offer { (({ m with cell := c', m := m' } : DevM).leave 2) with session := s }) := ⟨_, Lib.hid rfl⟩
    simp only
    rw [← Hof.out]
    go_enter Tryz.func165, Tryz.ntmps165
    go_wp2_with fail
    refine hnx.mono ?_
    rintro e W1 ⟨rfl, hm1, hc1, hk1⟩
    have t1 := hH.toCell hI0 hF hm1 hc1 hk1
    go_wp2_with fail
    refine (devLeave_any B a mb _ _ 2 W1 t1.is_).mono ?_
    rintro e W2 ⟨rfl, t2⟩
    have t12 := DevTo.trans hI0 t1 t2
    obtain ⟨⟨κ2, c2, d2, v2, g2, val2, h2, hF2⟩, hlo2⟩ := t12.is_
    have hb2 := h2.blk
    clear hc
    have hc := hb2.cell
    have hf := hb2.frozen
    unfold devCells at hc
    have t3 : DevTo B W2 a mb { (({ m with cell := c', m := m' } : DevM).leave 2) with session := s } (grow F w W2) (W2.setCell ⟨a, 12, none⟩ (.int .u32 s)) :=
      h2.toUpd t12.is_ hF2 (keepA W2) (by simp [World.setCell]) (by simpa [devCells] using hb2.set_ 12 (.int .u32 s)) rfl rfl rfl rfl rfl rfl rfl
    have t13 := DevTo.trans hI0 t12 t3
    have hoff := devOffer_any B a mb _ _ _ t13.is_ hki
    rw [← Hof.out] at hoff
    go_wp2_with fail
    refine hoff.mono ?_
    rintro e W3 ⟨x3, rfl, hown3, hb3⟩
    obtain ⟨A3, c3, rfl⟩ := own_slice hown3
    go_wp2_with fail
    have hs3 := t13.keep.size
    refine bodyPost_ret (v := .tuple #[.slice A3 of.length c3, .int .i64 0]) (by simp [results, Tryz.results165, go_sem]) rfl ⟨_, rfl, own_base hown3 hs3, DevAp.end_ hI0 t13 hb3 hown3⟩
  · have hq := Hq1.out
    rw [if_neg (by simp), if_pos (by simp)] at hq
    subst hq
    clear Hq1
    go_enter Tryz.func165, Tryz.ntmps165
    go_wp2_with fail
    refine hnx.mono ?_
    rintro e W1 ⟨rfl, hm1, hc1, hk1⟩
    have t1 := hH.toCell hI0 hF hm1 hc1 hk1
    go_wp2_with fail
    refine (devDown_any B a mb _ _ W1 t1.is_ hi.plaw).mono ?_
    rintro e W2 ⟨rfl, t2⟩
    have t12 := DevTo.trans hI0 t1 t2
    go_wp2_with fail
    refine bodyPost_ret (v := .tuple #[.slice none 0 0, .int .i64 70]) (by simp [results, Tryz.results165, go_sem]) rfl ⟨_, rfl, World.ownsRow_nil _ _ _ _, DevAp.nil_ t12⟩
  · have hq := Hq1.out
    rw [if_pos rfl] at hq
    subst hq
    clear Hq1
    have hki := (hgi.trip 80).leave 5 (by omega)
    obtain ⟨of, Hof⟩ : ∃ of, Hid (of = ((({ m with cell := c', m := m' } : DevM).trip 80).leave 5).none) := ⟨_, Lib.hid rfl⟩
    simp only
    rw [← Hof.out]
    go_enter Tryz.func165, Tryz.ntmps165
    go_wp2_with fail
    refine hnx.mono ?_
    rintro e W1 ⟨rfl, hm1, hc1, hk1⟩
    have t1 := hH.toCell hI0 hF hm1 hc1 hk1
    go_wp2_with fail
    refine (devTrip_any B a mb _ _ 80 W1 (by decide) t1.is_ (by simp only; omega)).mono ?_
    rintro e W2 ⟨rfl, t2⟩
    have t12 := DevTo.trans hI0 t1 t2
    go_wp2_with fail
    refine (devLeave_any B a mb _ _ 5 W2 t12.is_).mono ?_
    rintro e W3 ⟨rfl, t3⟩
    have t13 := DevTo.trans hI0 t12 t3
    have hrep := devNone_any B a mb _ _ 22 0 W3 t13.is_ hki (by omega) (by decide)
    rw [show DevM.frame _ 22 0 0 [] = of from Hof.out.symm] at hrep
    go_wp2_with fail
    refine hrep.mono ?_
    rintro e W4 ⟨x4, rfl, hown4, hb4⟩
    obtain ⟨A4, c4, rfl⟩ := own_slice hown4
    go_wp2_with fail
    have hs3 := t13.keep.size
    refine bodyPost_ret (v := .tuple #[.slice A4 of.length c4, .int .i64 80]) (by simp [results, Tryz.results165, go_sem]) rfl ⟨_, rfl, own_base hown4 hs3, DevAp.end_ hI0 t13 hb4 hown4⟩
theorem devStarted_any (B a mb : Nat) (m : DevM) (F : Nat → Prop) (w : World) (hI : DevIs B w a mb m F) (hi : m.Inv) :
    Calls Tryz.prog 135 #[.pointer (some ⟨a, 0, none⟩)] w fun e w' => DevAns B w a mb F ((if m.state = 3 then (({ m with state := 4 } : DevM).run true).alive else m), (if m.state = 3 then (({ m with state := 4 } : DevM).run true).alive else m).frame 19 0 0 [], 0) e w' := by
  have hI0 := hI
  obtain ⟨⟨κ, c, d, v, g, val, hH, hF⟩, hlo⟩ := hI
  have hb := hH.blk
  have hc := hb.cell
  have hf := hb.frozen
  unfold devCells at hc
  unfold DevAns
  by_cases h3 : m.state = 3
  · rw [if_pos h3]
    have hki := ((hi.toSt 4 (by omega)).run true).alive
    obtain ⟨of, Hof⟩ : ∃ of, Hid (of = ((({ m with state := 4 } : DevM).run true).alive).frame 19 0 0 []) := ⟨_, Lib.hid rfl⟩
    simp only
    rw [← Hof.out]
    rw [h3] at hc
    have hset : Blk (w.setCell ⟨a, 11, none⟩ (.int .i64 4)) a 109 (devCells { m with state := 4 } mb c d v g val) := by simpa [devCells] using hb.set_ 11 (.int .i64 4)
    have tA := hH.toUpd hI0 hF (keepA w) (by simp [World.setCell]) hset rfl rfl rfl rfl rfl rfl rfl
    have hA := hH.upd (keepA w) (by simp [World.setCell]) hset rfl rfl rfl rfl rfl rfl rfl
    go_enter Tryz.func135, Tryz.ntmps135
    go_wp2_with fail
    refine (valveRun_any v m.valve _ _ true _ hA.valve).mono ?_
    rintro e W2 ⟨rfl, hv2, hk2, hs2⟩
    have t2 := hA.toValve tA.is_ (fun x hx => .inl (hF x hx)) hv2 hk2 (fun x hx => .inl hx)
    have t12 : DevTo B w a mb (({ m with state := 4 } : DevM).run true) F W2 := DevTo.trans hI0 tA t2
    clear hs2
    go_wp2_with fail
    refine (devAlive_any B a mb (({ m with state := 4 } : DevM).run true) _ W2 t12.is_).mono ?_
    rintro e W3 ⟨rfl, t3⟩
    have t13 := DevTo.trans hI0 t12 t3
    have hrep := devNone_any B a mb _ _ 19 0 W3 t13.is_ hki (by omega) (by decide)
    rw [← Hof.out] at hrep
    go_wp2_with fail
    refine hrep.mono ?_
    rintro e W4 ⟨x4, rfl, hown4, hb4⟩
    obtain ⟨A4, c4, rfl⟩ := own_slice hown4
    go_wp2_with fail
    have hs3 := t13.keep.size
    refine bodyPost_ret (v := .tuple #[.slice A4 of.length c4, .int .i64 0]) (by simp [results, Tryz.results135, go_sem]) rfl ⟨_, rfl, own_base hown4 hs3, DevAp.end_ hI0 t13 hb4 hown4⟩
  · rw [if_neg h3]
    obtain ⟨of, Hof⟩ : ∃ of, Hid (of = m.frame 19 0 0 []) := ⟨_, Lib.hid rfl⟩
    simp only
    rw [← Hof.out]
    have g3 : (m.state == 3) = false := by simpa using h3
    have hrep := devNone_any B a mb m F 19 0 w hI0 hi (by omega) (by decide)
    rw [← Hof.out] at hrep
    go_enter Tryz.func135, Tryz.ntmps135
    go_wp2_with fail
    refine hrep.mono ?_
    rintro e W4 ⟨x4, rfl, hown4, hb4⟩
    obtain ⟨A4, c4, rfl⟩ := own_slice hown4
    go_wp2_with fail
    refine bodyPost_ret (v := .tuple #[.slice A4 of.length c4, .int .i64 0]) (by simp [results, Tryz.results135, go_sem]) rfl ⟨_, rfl, hown4, DevAp.end_ hI0 (DevTo.refl hI0) hb4 hown4⟩
end Go.Proofs.YtbkkfkbgcklkgaaGreat
/- The reference's device: busy, strange, none, offer. -/
namespace Go.Proofs.YtbkkfkbgcklkgaaGreat
open Go.RowKit
set_option maxHeartbeats 10000000
set_option maxRecDepth 100000

theorem rdBusy_any (b mb cb : Nat) (m : DevM) (lg vv val : Value) (w : World) (hb : Blk w b 120 (rdCells m mb cb lg vv val)) :
    Calls Tryz.prog 143 #[.pointer (some ⟨b, 0, none⟩)] w fun e w' => e = .returned (.bool m.busy) ∧ w' = w := by
  have hc := hb.cell
  unfold rdCells at hc
  obtain ⟨q, Hq⟩ : ∃ q, Hid (q = m.busy) := ⟨_, Lib.hid rfl⟩
  rw [← Hq.out]
  have Hq2 : Hid (q = decide (m.state = 2 ∨ m.state = 3 ∨ m.state = 4)) := Lib.hid Hq.out
  clear Hq
  by_cases h2 : m.state = 2
  · have e : q = true := by rw [Hq2.out]; simp [h2]
    subst e
    rw [h2] at hc
    go_enter Tryz.func143, Tryz.ntmps143
    go_wp2_with fail
    go_ret
    exact ⟨rfl, rfl⟩
  by_cases h3 : m.state = 3
  · have e : q = true := by rw [Hq2.out]; simp [h3]
    subst e
    rw [h3] at hc
    go_enter Tryz.func143, Tryz.ntmps143
    go_wp2_with fail
    go_ret
    exact ⟨rfl, rfl⟩
  by_cases h4 : m.state = 4
  · have e : q = true := by rw [Hq2.out]; simp [h4]
    subst e
    rw [h4] at hc
    go_enter Tryz.func143, Tryz.ntmps143
    go_wp2_with fail
    go_ret
    exact ⟨rfl, rfl⟩
  have e : q = false := by rw [Hq2.out]; simp [h2, h3, h4]
  subst e
  have g2 : (m.state == 2) = false := by simpa using h2
  have g3 : (m.state == 3) = false := by simpa using h3
  have g4 : (m.state == 4) = false := by simpa using h4
  go_enter Tryz.func143, Tryz.ntmps143
  go_wp2_with fail
  go_ret
  exact ⟨rfl, rfl⟩
theorem rdStrange_any (B b mb : Nat) (m : DevM) (F : Nat → Prop) (w : World) (hI : RDIs B w b mb m F) (hi : m.Inv) (hlen : m.log.length < 1073741823) :
    Calls Tryz.prog 100 #[.pointer (some ⟨b, 0, none⟩)] w fun e w' => e = .returned (.bool m.strange.2) ∧ RDTo B w b mb m.strange.1 F w' := by
  have hI0 := hI
  obtain ⟨⟨κ, A, c, vv, val, cb, hH, hF⟩, hlo⟩ := hI
  have hb := hH.blk
  have hc := hb.cell
  have hf := hb.frozen
  unfold rdCells at hc
  have hod := hi.odd
  have hbz := rdBusy_any b mb cb m _ vv val w hb
  cases hbu : m.busy with
  | false =>
    have e1 : m.strange = (m, false) := by unfold DevM.strange; simp [hbu]
    rw [e1]
    rw [hbu] at hbz
    clear e1 hbu
    go_enter Tryz.func100, Tryz.ntmps100
    go_wp2_with fail
    refine hbz.mono ?_
    rintro e w1 ⟨rfl, rfl⟩
    go_wp2_with fail
    go_ret
    exact ⟨rfl, RDTo.refl hI0⟩
  | true =>
    have hwr : IntKind.i64.wrap (m.odd + 1) = m.odd + 1 := IntWalk.i64_in _ (by omega)
    have hset : Blk (w.setCell ⟨b, 22, none⟩ (.int .i64 (m.odd + 1))) b 120 (rdCells { m with odd := m.odd + 1 } mb cb (.slice A m.log.length c) vv val) := by simpa [rdCells] using hb.set_ 22 (.int .i64 (m.odd + 1))
    have tA := hH.toOwn hI0 hF (hH.upd (m' := { m with odd := m.odd + 1 }) (keepB (Keep.refl _ w)) (by simp [World.setCell]) hset rfl rfl rfl rfl rfl) (keepB (Keep.refl _ w))
    by_cases h4 : m.odd + 1 < 4
    · have e1 : m.strange = ({ m with odd := m.odd + 1 }, false) := by unfold DevM.strange; simp only [hbu, Bool.not_true, Bool.false_eq_true, if_false]; rw [if_pos h4]
      rw [e1]
      rw [hbu] at hbz
      clear e1 hbu
      go_enter Tryz.func100, Tryz.ntmps100
      go_wp2_with fail
      refine hbz.mono ?_
      rintro e w1 ⟨rfl, rfl⟩
      go_wp2_with fail
      go_ret
      exact ⟨rfl, tA⟩
    · have Hq : Hid (m.strange = ((if m.state = 4 then ({ m with odd := m.odd + 1 } : DevM).trip 131 else { m with odd := m.odd + 1 }).leave 1, true)) := Lib.hid (by unfold DevM.strange; simp only [hbu, Bool.not_true, Bool.false_eq_true, if_false]; rw [if_neg h4])
      rw [hbu] at hbz
      clear hbu
      by_cases hs : m.state = 4
      · rw [Hq.out, if_pos hs]
        rw [hs] at hc
        clear Hq
        go_enter Tryz.func100, Tryz.ntmps100
        go_wp2_with fail
        refine hbz.mono ?_
        rintro e w1 ⟨rfl, rfl⟩
        go_wp2_with fail
        refine (rdLatch_any B b mb { m with odd := m.odd + 1 } _ 131 _ (by decide) tA.is_ hlen).mono ?_
        rintro e w2 ⟨rfl, t2⟩
        have t12 := RDTo.trans hI0 tA t2
        go_wp2_with fail
        refine (rdLeave_any B b mb (({ m with odd := m.odd + 1 } : DevM).trip 131) _ 1 _ t12.is_).mono ?_
        rintro e w3 ⟨rfl, t3⟩
        go_wp2_with fail
        go_ret
        exact ⟨rfl, RDTo.trans hI0 t12 t3⟩
      · rw [Hq.out, if_neg hs]
        have g4 : (m.state == 4) = false := by simpa using hs
        clear Hq
        go_enter Tryz.func100, Tryz.ntmps100
        go_wp2_with fail
        refine hbz.mono ?_
        rintro e w1 ⟨rfl, rfl⟩
        go_wp2_with fail
        refine (rdLeave_any B b mb { m with odd := m.odd + 1 } _ 1 _ tA.is_).mono ?_
        rintro e w2 ⟨rfl, t2⟩
        go_wp2_with fail
        go_ret
        exact ⟨rfl, RDTo.trans hI0 tA t2⟩
theorem rdNone_any (B b mb : Nat) (m : DevM) (F : Nat → Prop) (w : World) (hI : RDIs B w b mb m F) (hi : m.Inv) :
    Calls Tryz.prog 101 #[.pointer (some ⟨b, 0, none⟩)] w fun e w' => ∃ v, e = .returned v ∧ w'.ownsRow w.heap.size 5 1 v m.none.length (u8c m.none) ∧ Below w.heap.size w w' := by
  have h := rdAnswer_any B b mb m F 22 0 0 [] none 0 0 0 w hI hi rfl (by omega) Reads.none_ (Nat.zero_le _)
  rw [show m.frame 22 0 0 [] = m.none from rfl] at h
  generalize m.none = fr at *
  go_enter Tryz.func101, Tryz.ntmps101
  go_wp2_with fail
  refine h.mono ?_
  rintro e w1 ⟨v, rfl, hown, hb1⟩
  obtain ⟨Av, cv, rfl⟩ := own_slice hown
  go_wp2_with fail
  go_ret
  exact ⟨_, rfl, hown, hb1⟩
theorem rdOffer_any (B b mb : Nat) (m : DevM) (F : Nat → Prop) (w : World) (hI : RDIs B w b mb m F) (hi : m.Inv) :
    Calls Tryz.prog 144 #[.pointer (some ⟨b, 0, none⟩)] w fun e w' => ∃ v, e = .returned v ∧ w'.ownsRow w.heap.size 5 1 v m.offer.length (u8c m.offer) ∧ Below w.heap.size w w' := by
  have hI0 := hI
  obtain ⟨⟨κ, A, c, vv, val, cb, hH, hF⟩, hlo⟩ := hI
  have hc := hH.blk.cell
  unfold rdCells at hc
  have hsg := fun W => r9sign_any m.p W hi.pok hi.plaw
  unfold parVal at hsg
  obtain ⟨of, Hof⟩ : ∃ of, Hid (of = m.offer) := ⟨_, Lib.hid rfl⟩
  rw [← Hof.out]
  go_enter Tryz.func144, Tryz.ntmps144
  go_wp2_with fail
  refine (hsg _).mono ?_
  rintro e W1 ⟨v1, rfl, hown1, hb1⟩
  obtain ⟨A1, c1, rfl⟩ := own_slice hown1
  have hs1 := hb1.size
  have hrep := rdAnswer_any B b mb m F 17 0 0 m.p.sign A1 4 c1 W1.heap.size W1 (hI0.below hb1) hi (sign_length _) (by omega) (Reads.of_own hown1) (Nat.le_refl _)
  rw [show m.frame 17 0 0 m.p.sign = of from Hof.out.symm] at hrep
  go_wp2_with fail
  refine hrep.mono ?_
  rintro e W3 ⟨x3, rfl, hown3, hb3⟩
  obtain ⟨A3, c3, rfl⟩ := own_slice hown3
  go_wp2_with fail
  go_ret
  exact ⟨_, rfl, own_base hown3 hs1, hb1.trans (hb3.mono hs1)⟩
/-- What a call leaves of a device, apart from what it answers. -/
structure RDAp (B : Nat) (w : World) (b mb : Nat) (m : DevM) (F : Nat → Prop) (x : Value) (w' : World) : Prop where
  too : RDTo B w b mb m F w'
  ap : ∃ F' : Nat → Prop, RDIs B w' b mb m F' ∧ (∀ y, F' y → grow F w w' y) ∧ ∀ y, x.ownBlock = some y → ¬ F' y
/-- What a call that answers a frame leaves. -/
def RDAns (B : Nat) (w : World) (b mb : Nat) (F : Nat → Prop) (r : DevM × List UInt8 × Int) (e : Ending) (w' : World) : Prop :=
  ∃ x, e = .returned (.tuple #[x, .int .i64 r.2.2]) ∧ w'.ownsRow w.heap.size 5 1 x r.2.1.length (u8c r.2.1) ∧ RDAp B w b mb r.1 F x w'
section
variable {B : Nat} {w w1 w2 : World} {b mb n : Nat} {m m1 m2 : DevM} {F : Nat → Prop} {x : Value} {xs : List Value}
theorem RDAp.end_ (h0 : RDIs B w b mb m F) (t : RDTo B w b mb m1 F w1) (hb : Below w1.heap.size w1 w2) (hx : w2.ownsRow w1.heap.size 5 1 x n xs) : RDAp B w b mb m1 F x w2 := by
  have hs := t.keep.size
  have hs2 := hb.size
  refine ⟨RDTo.below h0 t hb, grow F w w1, t.is_.below hb, fun y hy => hy.imp id (fun h => ⟨h.1, by omega⟩), fun y hy hF => ?_⟩
  have := (hx.lt y hy).1
  rcases hF with hF | hF
  · have := (h0.lo y hF).2; omega
  · omega
theorem RDAp.nil_ {c n : Nat} (t : RDTo B w b mb m1 F w1) : RDAp B w b mb m1 F (.slice none n c) w1 :=
  ⟨t, grow F w w1, t.is_, fun _ h => h, fun y hy => by simp [Value.ownBlock] at hy⟩
theorem RDAp.trans (h0 : RDIs B w b mb m F) (t : RDTo B w b mb m1 F w1) (h : RDAp B w1 b mb m2 (grow F w w1) x w2) : RDAp B w b mb m2 F x w2 := by
  obtain ⟨F', h1, h2, h3⟩ := h.ap
  exact ⟨RDTo.trans h0 t h.too, F', h1, fun y hy => grow_grow t.keep.size h.too.keep.size y (h2 y hy), h3⟩
theorem RDAns.of {r : DevM × List UInt8 × Int} {e : Ending} {w' : World} (hI : RDIs B w b mb m F) (t : RDTo B w b mb m1 F w1) (h : RDAns B w1 b mb (grow F w w1) r e w') : RDAns B w b mb F r e w' := by
  obtain ⟨x, he, ho, t2⟩ := h
  exact ⟨x, he, own_base ho t.keep.size, RDAp.trans hI t t2⟩
theorem RDAp.afterBelow (hI : RDIs B w b mb m F) (hb : Below w.heap.size w w1) (h : RDAp B w1 b mb m2 F x w2) : RDAp B w b mb m2 F x w2 := by
  obtain ⟨F', h1, h2, h3⟩ := h.ap
  have hs := hb.size
  exact ⟨RDTo.afterBelow hI hb h.too, F', h1, fun y hy => (h2 y hy).imp id (fun h => ⟨by omega, h.2⟩), h3⟩
theorem RDAns.afterBelow {r : DevM × List UInt8 × Int} {e : Ending} {w' : World} (hI : RDIs B w b mb m F) (hb : Below w.heap.size w w1) (h : RDAns B w1 b mb F r e w') : RDAns B w b mb F r e w' := by
  obtain ⟨x, he, ho, t2⟩ := h
  exact ⟨x, he, own_base ho hb.size, RDAp.afterBelow hI hb t2⟩
end
end Go.Proofs.YtbkkfkbgcklkgaaGreat
/- The reference's device: Write, Tick, Ack, See. -/
namespace Go.Proofs.YtbkkfkbgcklkgaaGreat
open Go.RowKit
set_option maxHeartbeats 10000000
set_option maxRecDepth 100000

theorem rdTick_any (B b mb : Nat) (m : DevM) (F : Nat → Prop) (n : Int) (w : World) (hI : RDIs B w b mb m F) (hi : m.Inv) (hlen : m.log.length < 1073741800) :
    Calls Tryz.prog 66 #[.pointer (some ⟨b, 0, none⟩), .int .i64 n] w fun e w' => e = .returned (.int .i64 (m.tick n).2) ∧ RDTo B w b mb (m.tick n).1 F w' := by
  have hI0 := hI
  obtain ⟨⟨κ, A, c, vv, val, cb, hH, hF⟩, hlo⟩ := hI
  have hc := hH.blk.cell
  unfold rdCells at hc
  by_cases h6 : m.state = 6
  · have e1 : m.tick n = (m, 70) := by unfold DevM.tick; rw [if_pos h6]
    rw [e1]
    rw [h6] at hc
    clear e1
    go_enter Tryz.func66, Tryz.ntmps66
    go_wp2_with fail
    go_ret
    exact ⟨rfl, RDTo.refl hI0⟩
  have g6 : (m.state == 6) = false := by simpa using h6
  by_cases hn : n < 0
  · have e1 : m.tick n = (m, 2) := by unfold DevM.tick; rw [if_neg h6, if_pos hn]
    rw [e1]
    clear e1
    go_enter Tryz.func66, Tryz.ntmps66
    go_wp2_with fail
    go_ret
    exact ⟨rfl, RDTo.refl hI0⟩
  · have hp8 := hi.p8
    have htk := rdogTicks_any b 9 _ _ _ m.p.watch m.since n w hH.dogBlk rfl hi.since.1 hi.since.2 (by omega) (by omega)
    cases hr : (ticksM m.p.watch m.since n).2 with
    | false =>
      have e1 : m.tick n = ({ m with since := (ticksM m.p.watch m.since n).1 }, 0) := by unfold DevM.tick; rw [if_neg h6, if_neg hn]; simp only [hr]; rfl
      rw [e1]
      rw [hr] at htk
      clear e1 hp8
      go_enter Tryz.func66, Tryz.ntmps66
      go_wp2_with fail
      refine htk.mono ?_
      rintro e w1 ⟨rfl, hd1, hk1, hs1⟩
      have h1 : RDAt B w1 b mb { m with since := (ticksM m.p.watch m.since n).1 } κ A c vv val cb := hH.upd hk1 hs1 hd1 rfl rfl rfl rfl rfl
      clear hs1
      go_wp2_with fail
      go_ret
      exact ⟨rfl, hH.toOwn hI0 hF h1 hk1⟩
    | true =>
      have e1 : m.tick n = (({ m with since := (ticksM m.p.watch m.since n).1 } : DevM).trip 100, 0) := by unfold DevM.tick; rw [if_neg h6, if_neg hn]; simp only [hr]; rfl
      rw [e1]
      rw [hr] at htk
      clear e1 hp8
      go_enter Tryz.func66, Tryz.ntmps66
      go_wp2_with fail
      refine htk.mono ?_
      rintro e w1 ⟨rfl, hd1, hk1, hs1⟩
      have h1 : RDAt B w1 b mb { m with since := (ticksM m.p.watch m.since n).1 } κ A c vv val cb := hH.upd hk1 hs1 hd1 rfl rfl rfl rfl rfl
      have t1 := hH.toOwn hI0 hF h1 hk1
      clear hs1
      go_wp2_with fail
      refine (rdLatch_any B b mb { m with since := (ticksM m.p.watch m.since n).1 } _ 100 w1 (by decide) t1.is_ (by simp only; omega)).mono ?_
      rintro e w2 ⟨rfl, t2⟩
      go_wp2_with fail
      go_ret
      exact ⟨rfl, RDTo.trans hI0 t1 t2⟩
theorem rdAck_any (B b mb : Nat) (m : DevM) (F : Nat → Prop) (w : World) (hI : RDIs B w b mb m F) :
    Calls Tryz.prog 67 #[.pointer (some ⟨b, 0, none⟩)] w fun e w' => e = .returned (.int .i64 m.ack.2) ∧ RDTo B w b mb m.ack.1 F w' := by
  have hI0 := hI
  obtain ⟨⟨κ, A, c, vv, val, cb, hH, hF⟩, hlo⟩ := hI
  have hc := hH.blk.cell
  unfold rdCells at hc
  by_cases h6 : m.state = 6
  · have e1 : m.ack = (m, 70) := by unfold DevM.ack; rw [if_pos h6]
    rw [e1]
    rw [h6] at hc
    clear e1
    go_enter Tryz.func67, Tryz.ntmps67
    go_wp2_with fail
    go_ret
    exact ⟨rfl, RDTo.refl hI0⟩
  have g6 : (m.state == 6) = false := by simpa using h6
  have e1 : m.ack = ({ m with valve := m.valve.ack }, if m.valve.request then 0 else 110) := by
    unfold DevM.ack ValveM.ack
    rw [if_neg h6]
    cases m.valve.request <;> rfl
  rw [e1]
  have hack := rvAck_any b 11 _ _ _ m.p.out m.valve vv w hH.valveBlk rfl
  clear e1
  cases hr : m.valve.request with
  | false =>
    rw [hr] at hack
    go_enter Tryz.func67, Tryz.ntmps67
    go_wp2_with fail
    refine hack.mono ?_
    rintro e w1 ⟨rfl, hv⟩
    have h1 := hH.onValve hv (.inl ⟨rfl, ack_val _⟩)
    go_wp2_with fail
    go_ret
    exact ⟨rfl, hH.toOwn hI0 hF h1 hv.2.1⟩
  | true =>
    rw [hr] at hack
    go_enter Tryz.func67, Tryz.ntmps67
    go_wp2_with fail
    refine hack.mono ?_
    rintro e w1 ⟨rfl, hv⟩
    have h1 := hH.onValve hv (.inl ⟨rfl, ack_val _⟩)
    go_wp2_with fail
    go_ret
    exact ⟨rfl, hH.toOwn hI0 hF h1 hv.2.1⟩
theorem rdWrite_any (B b mb : Nat) (m : DevM) (F : Nat → Prop) (A : Option Addr) (n c Br : Nat) (l : List UInt8) (hold : Bool) (w : World) (hI : RDIs B w b mb m F) (hr : Reads w Br 1 A n (u8c l)) (hB : Br ≤ w.heap.size) (hi : m.Inv) :
    Calls Tryz.prog 25 #[.pointer (some ⟨b, 0, none⟩), .slice A n c, .bool hold] w fun e w' => e = .returned (.int .i64 (m.write l hold).2) ∧ RDTo B w b mb (m.write l hold).1 F w' := by
  have hI0 := hI
  obtain ⟨⟨κ, Al, cl, vv, val, cb, hH, hF⟩, hlo⟩ := hI
  obtain ⟨i0, hi0, hz0, hz1, hz2⟩ := info_parts byte_info
  have hb := hH.blk
  have hc := hb.cell
  unfold rdCells at hc
  have hl : l.length = n := by have := hr.1; simpa [u8c] using this
  by_cases h6 : m.state = 6
  · have e1 : m.write l hold = (m, 70) := by unfold DevM.write; rw [if_pos h6]
    rw [e1]
    rw [h6] at hc
    clear e1
    go_enter Tryz.func25, Tryz.ntmps25
    go_wp2_with fail
    go_ret
    exact ⟨rfl, RDTo.refl hI0⟩
  have g6 : (m.state == 6) = false := by simpa using h6
  by_cases he : (n : Int) = m.p.inn
  · have e1 : m.write l hold = ({ m with value := l, hold := hold }, 0) := by unfold DevM.write; rw [hl, if_neg h6, if_neg (by simpa using he)]
    rw [e1]
    have g1 : ((n : Int) != m.p.inn) = false := by simpa using he
    have hn : n ≤ 1000000 := by have := hi.p8; omega
    have Hl := Lib.hid hl
    clear e1 hl he
    go_enter Tryz.func25, Tryz.ntmps25
    go_wp2_with (at_builtin; refine wpList_append_any _ rfl (.tmp 21) (.tmp 22) _ rfl w.heap.size 5 i0 _ 1 1 Tryz.underlying41 hi0 hz0 hz1 hz2 rfl (by omega) (.slice (some ⟨w.heap.size, 0, none⟩) 0 0) 0 [] rfl (World.ownsRow_made w #[] 0 (Nat.le_refl _) (by unfold maxLen; omega) rfl) Br A n c (u8c l) rfl (hr.alloc hB _) (u8c_one l) (by unfold maxLen; omega) (by omega) (by simp) ?_; intro v1 w1 hown1 hg1 hat1; rw [Nat.zero_add, List.nil_append] at hown1; obtain ⟨A1, c1, rfl⟩ := own_slice hown1; have hb1 : Below w.heap.size w w1 := ((Below.refl _ _).alloc (Nat.le_refl _) _).grown hg1 (by simp) (fun k hk => by simp [Value.ownBlock] at hk; omega); have h1 := hH.below hb1; have hbk := h1.blk; have hc1 := hbk.cell; have hf1 := hbk.frozen; unfold rdCells at hc1)
    go_ret
    have hlt1 := hown1.lt
    have hk : Keep (fun x => x = b) w1 ((w1.setCell ⟨b, 23, none⟩ (.slice A1 n c1)).setCell ⟨b, 24, none⟩ (.bool hold)) := keepB (keepB (Keep.refl _ w1))
    have hz : ((w1.setCell ⟨b, 23, none⟩ (.slice A1 n c1)).setCell ⟨b, 24, none⟩ (.bool hold)).heap.size = w1.heap.size := by simp [World.setCell]
    have hbl := (hH.inF hH.kb).2
    have hs1 := hb1.size
    obtain ⟨p1, p2, p3, p4, p5⟩ := h1.parts hk
    have h4 : RDAt B ((w1.setCell ⟨b, 23, none⟩ (.slice A1 n c1)).setCell ⟨b, 24, none⟩ (.bool hold)) b mb { m with value := l, hold := hold } (paint κ 3 w ((w1.setCell ⟨b, 23, none⟩ (.slice A1 n c1)).setCell ⟨b, 24, none⟩ (.bool hold))) Al cl vv (.slice A1 n c1) cb := {
      blk := by simpa [rdCells] using (hbk.set_ 23 (.slice A1 n c1)).set_ 24 (.bool hold)
      log := p1
      vval := p2
      value := by
        simp only
        rw [Hl.out]
        exact own_base (ownsRow_keep hown1 hk (fun x hx e => by have := (hlt1 x hx).1; omega)) (Nat.zero_le _)
      mem := p4.keep (S := fun _ => False) (Keep.refl _ _) (fun _ _ h => h) (fun x hx => paint_old hx hH.lo)
      cell := p5
      kb := paint_old hH.kb hH.lo
      kl := fun x hx => paint_old (hH.kl x hx) hH.lo
      kv := fun x hx => paint_old (hH.kv x hx) hH.lo
      kx := fun x hx => paint_new (hlt1 x hx).1 (by rw [hz]; exact (hlt1 x hx).2)
      kc := paint_old hH.kc hH.lo
      lo := paint_lo hH.lo hH.Ble (by rw [hz]; exact hs1) }
    exact ⟨rfl, h4.toIs hI0 (paint_sub hF) ((Keep.of_below hb1).andThen hk (fun x _ e => e ▸ hI0.Fb))⟩
  · have e1 : m.write l hold = (m, 45) := by unfold DevM.write; rw [hl, if_neg h6, if_pos he]
    rw [e1]
    have g1 : ((n : Int) != m.p.inn) = true := by simpa using he
    clear e1
    go_enter Tryz.func25, Tryz.ntmps25
    go_wp2_with fail
    go_ret
    exact ⟨rfl, RDTo.refl hI0⟩
theorem rdS6 {w : World} {b mb cb : Nat} {m : DevM} {lg vv val : Value} (h : Blk w b 120 (rdCells m mb cb lg vv val)) :
    w.cell? ⟨b, 18, none⟩ = some (.int .i64 m.state) ∧ w.cell? ⟨b, 19, none⟩ = some (.int .u32 m.session) ∧ w.cell? ⟨b, 20, none⟩ = some (.int .u32 m.number) ∧ w.cell? ⟨b, 21, none⟩ = some (.int .u32 m.sent) ∧ w.cell? ⟨b, 10, none⟩ = some (.int .i64 m.since) ∧ w.cell? ⟨b, 15, none⟩ = some (.int .i64 m.valve.latched) :=
  ⟨(h.cell 18).trans rfl, (h.cell 19).trans rfl, (h.cell 20).trans rfl, (h.cell 21).trans rfl, (h.cell 10).trans rfl, (h.cell 15).trans rfl⟩
theorem routput_length {V : ValveM} {N : Nat} (h : ∀ l, V.value = some l → l.length = N) : (V.output N).length = N := by
  unfold ValveM.output
  split
  · rename_i hon
    cases hv : V.value with
    | none => simp [ValveM.on, hv] at hon
    | some l => simpa using h l hv
  · simp
theorem rdSee_any (B b mb : Nat) (m : DevM) (F : Nat → Prop) (w : World) (hI : RDIs B w b mb m F) (hi : m.Inv) :
    Calls Tryz.prog 78 #[.pointer (some ⟨b, 0, none⟩)] w fun e w' => ∃ x, e = .returned (endVal m.see x) ∧ w'.ownsRow w.heap.size 5 1 x m.see.out.length (u8c m.see.out) ∧ Below w.heap.size w w' := by
  obtain ⟨⟨κ, A, c, vv, val, cb, hH, hF⟩, hlo⟩ := hI
  have hlaw := hi.p8
  obtain ⟨N, hN⟩ : ∃ N : Nat, m.p.out = (N : Int) := ⟨m.p.out.toNat, by omega⟩
  have hN8 : N ≤ 8 := by omega
  have hvv : ∀ l, m.valve.value = some l → l.length = N := fun l hl => by have := hi.vval l hl; omega
  have Hlen := Lib.hid (routput_length hvv)
  obtain ⟨sm, Hsm⟩ : ∃ s, Hid (s = m.see) := ⟨_, Lib.hid rfl⟩
  rw [← Hsm.out]
  have HN := Lib.hid hN
  clear hlaw hN
  have h1 := hH.below ((Below.refl w.heap.size w).alloc (Nat.le_refl _) (.cells #[.int .i64 0, .int .u32 0, .int .u32 0, .int .u32 0, .int .i64 0, .int .i64 0, .bool false, .bool false, .slice none 0 0] 52))
  have hE := Blk.new w 52 #[.int .i64 0, .int .u32 0, .int .u32 0, .int .u32 0, .int .i64 0, .int .i64 0, .bool false, .bool false, .slice none 0 0]
  have hbE : Below w.heap.size w (w.alloc (.cells #[.int .i64 0, .int .u32 0, .int .u32 0, .int .u32 0, .int .i64 0, .int .i64 0, .bool false, .bool false, .slice none 0 0] 52)) := (Below.refl _ _).alloc (Nat.le_refl _) _
  have hea : w.heap.size ≠ b := by have := (hH.inF hH.kb).2; omega
  have hvb := h1.valveBlk
  rw [HN.out] at hvb
  go_enter Tryz.func78, Tryz.ntmps78
  go_wp2_with fail
  obtain ⟨e0, He0⟩ : ∃ e, Hid (e = w.heap.size) := ⟨_, Lib.hid rfl⟩
  rw [← He0.out] at hE hea ⊢
  generalize w.alloc (.cells _ 52) = W0 at *
  refine (rvOutput_any b 11 _ _ _ m.valve vv W0 N hvb rfl h1.vval hN8 hvv).mono ?_
  rintro e W1 ⟨x, rfl, hown, hb1⟩
  have h2 := h1.below hb1
  have hE2 := hE.below hb1 hE.lt
  have hbE2 := hbE.trans (hb1.mono hbE.size)
  have hs0 := hbE.size
  obtain ⟨Ax, cx, rfl⟩ := own_slice hown
  have hb := h2.blk.drew
  have hv := h2.drew.valveBlk
  have hel0 := hE.lt
  clear h1 hE hbE hvb
  have huc := hE2.cell
  have huf := hE2.frozen
  have hc := h2.blk.cell
  unfold rdCells at hc
  go_wp2_with fail
  go_region_held3 (fun w' => w'.cell? ⟨b, 18, none⟩ = some (.int .i64 m.state) ∧ w'.cell? ⟨b, 19, none⟩ = some (.int .u32 m.session) ∧ w'.cell? ⟨b, 20, none⟩ = some (.int .u32 m.number) ∧ w'.cell? ⟨b, 21, none⟩ = some (.int .u32 m.sent) ∧ w'.cell? ⟨b, 10, none⟩ = some (.int .i64 m.since) ∧ w'.cell? ⟨b, 15, none⟩ = some (.int .i64 m.valve.latched)) (with_reducible (first | exact rdS6 hb | exact rdS6 (hb.far9 hea) | exact rdS6 (h2.blk.far9 hea).drew)) (first
    | (go_at_call 125; refine (rvRequest_any b 11 _ _ _ m.p.out m.valve vv _ hv rfl).mono ?_; rintro e W2 ⟨rfl, rfl⟩))
  have hel := hE2.lt
  have hlt := hown.lt
  have hfar : ∀ y, (Value.slice Ax N cx).ownBlock = some y → ¬ y = e0 := fun y hy e => by have := (hlt y hy).1; omega
  have hE3 := (hE2.store9 (a0 := (.int .i64 m.state)) (a1 := (.int .u32 m.session)) (a2 := (.int .u32 m.number)) (a3 := (.int .u32 m.sent)) (a4 := (.int .i64 m.since)) (a5 := (.int .i64 m.valve.latched)) (a6 := (.bool m.valve.request)) (a7 := (.bool m.valve.on)) (a8 := (.slice Ax N cx))).drew
  have hb3 : Below w.heap.size w (((((((((W1.setCell ⟨e0, 0, none⟩ (.int .i64 m.state)).setCell ⟨e0, 1, none⟩ (.int .u32 m.session)).setCell ⟨e0, 2, none⟩ (.int .u32 m.number)).setCell ⟨e0, 3, none⟩ (.int .u32 m.sent)).setCell ⟨e0, 4, none⟩ (.int .i64 m.since)).setCell ⟨e0, 5, none⟩ (.int .i64 m.valve.latched)).setCell ⟨e0, 6, none⟩ (.bool m.valve.request)).setCell ⟨e0, 7, none⟩ (.bool m.valve.on)).setCell ⟨e0, 8, none⟩ (.slice Ax N cx)).drew := (below9 hbE2 (by have := He0.out; omega)).drew
  have hown3 := ownsRow_keep (S := fun x => x = e0) hown ((((((((((Keep.refl (fun x => x = e0) W1).setCell (p := ⟨e0, 0, none⟩) (fun _ => rfl) (.int .i64 m.state)).setCell (p := ⟨e0, 1, none⟩) (fun _ => rfl) (.int .u32 m.session)).setCell (p := ⟨e0, 2, none⟩) (fun _ => rfl) (.int .u32 m.number)).setCell (p := ⟨e0, 3, none⟩) (fun _ => rfl) (.int .u32 m.sent)).setCell (p := ⟨e0, 4, none⟩) (fun _ => rfl) (.int .i64 m.since)).setCell (p := ⟨e0, 5, none⟩) (fun _ => rfl) (.int .i64 m.valve.latched)).setCell (p := ⟨e0, 6, none⟩) (fun _ => rfl) (.bool m.valve.request)).setCell (p := ⟨e0, 7, none⟩) (fun _ => rfl) (.bool m.valve.on)).setCell (p := ⟨e0, 8, none⟩) (fun _ => rfl) (.slice Ax N cx)).drew hfar
  generalize (((((((((W1.setCell ⟨e0, 0, none⟩ (.int .i64 m.state)).setCell ⟨e0, 1, none⟩ (.int .u32 m.session)).setCell ⟨e0, 2, none⟩ (.int .u32 m.number)).setCell ⟨e0, 3, none⟩ (.int .u32 m.sent)).setCell ⟨e0, 4, none⟩ (.int .i64 m.since)).setCell ⟨e0, 5, none⟩ (.int .i64 m.valve.latched)).setCell ⟨e0, 6, none⟩ (.bool m.valve.request)).setCell ⟨e0, 7, none⟩ (.bool m.valve.on)).setCell ⟨e0, 8, none⟩ (.slice Ax N cx)).drew = W3 at *
  clear huc huf hc
  have huc := hE3.cell
  go_wp2_with fail
  have e1 : sm = m.see := Hsm.out
  have e2 : m.see.out = m.valve.output (N : Int) := by unfold DevM.see; rw [HN.out]
  subst e1
  refine bodyPost_ret (v := endVal m.see (.slice Ax N cx)) (by simp [results, Tryz.results78, go_sem, endVal, DevM.see, huc]) rfl ⟨_, rfl, ?_, hb3⟩
  rw [e2, Hlen.out]
  exact own_base hown3 hs0
end Go.Proofs.YtbkkfkbgcklkgaaGreat
