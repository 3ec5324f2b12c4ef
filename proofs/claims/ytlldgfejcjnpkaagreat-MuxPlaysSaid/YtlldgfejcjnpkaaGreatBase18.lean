/- The base of the laws, part 18: contracts and plain lemmas, no statement. -/
import Derived.Test.YtlldgfejcjnpkaaGreatBase14
import Derived.Test.YtlldgfejcjnpkaaGreatBase15
set_option linter.unusedVariables false
/- A device's flags, reply, offer, stuck, odds, begin. -/
namespace Go.Proofs.YtlldgfejcjnpkaaGreat
open Go.RowKit
set_option maxHeartbeats 10000000
set_option maxRecDepth 100000

theorem devFlags_any (B a mb : Nat) (m : DevM) (N : Nat) (F : Nat → Prop) (w : World) (hI : DevIs B w a mb m F) (hN : m.p.out = (N : Int)) (hN8 : N ≤ 8) (hval : ∀ b, m.valve.value = some b → b.length = N) :
    Calls Tryz.prog 212 #[.pointer (some ⟨a, 0, none⟩)] w fun e w' => e = .returned (.int .i64 (flagsM m.valve m.hold)) ∧ Below w.heap.size w w' := by
  obtain ⟨⟨κ, c, d, v, g, val, hH, hF⟩, hlo⟩ := hI
  have hc := hH.blk.cell
  unfold devCells at hc
  have hv := hH.valve
  rw [hN] at hv
  have or_0_1 : bits .or .i64 0 1 = 1 := by kernel_rfl
  have or_0_2 : bits .or .i64 0 2 = 2 := by kernel_rfl
  have or_1_2 : bits .or .i64 1 2 = 3 := by kernel_rfl
  have or_0_4 : bits .or .i64 0 4 = 4 := by kernel_rfl
  have or_1_4 : bits .or .i64 1 4 = 5 := by kernel_rfl
  have or_2_4 : bits .or .i64 2 4 = 6 := by kernel_rfl
  have or_3_4 : bits .or .i64 3 4 = 7 := by kernel_rfl
  have or_0_8 : bits .or .i64 0 8 = 8 := by kernel_rfl
  have or_1_8 : bits .or .i64 1 8 = 9 := by kernel_rfl
  have or_2_8 : bits .or .i64 2 8 = 10 := by kernel_rfl
  have or_3_8 : bits .or .i64 3 8 = 11 := by kernel_rfl
  have or_4_8 : bits .or .i64 4 8 = 12 := by kernel_rfl
  have or_5_8 : bits .or .i64 5 8 = 13 := by kernel_rfl
  have or_6_8 : bits .or .i64 6 8 = 14 := by kernel_rfl
  have or_7_8 : bits .or .i64 7 8 = 15 := by kernel_rfl
  obtain ⟨fl, Hfl⟩ : ∃ x, Hid (x = flagsM m.valve m.hold) := ⟨_, Lib.hid rfl⟩
  rw [← Hfl.out]
  go_enter Tryz.func212, Tryz.ntmps212
  go_wp2_with fail
  refine (valveOutput_any v m.valve N _ w hv hN8 hval).mono ?_
  rintro e w1 ⟨x, rfl, hownx, hlx, hb1⟩
  have hv1 := hv.keep (F' := Of κ 2) (S := fun _ => False) (Keep.of_below hb1) (fun _ _ h => h) (fun _ h => h)
  have hc1 := ((hH.blk).below hb1 hH.blk.lt).cell
  unfold devCells at hc1
  obtain ⟨Ax, cx, rfl⟩ := own_slice hownx
  clear hc hownx hlx hval hv
  have hq := valveRequest_any v m.valve _ _ w1 hv1
  have hl := valveLatched_any v m.valve _ _ w1 hv1
  cases hon : m.valve.on <;> cases hrq : m.valve.request <;> cases hlt : (m.valve.latched != 0) <;> cases hho : m.hold
  all_goals
    rw [hrq] at hq
    rw [hho] at hc1
    go_wp2_with fail
    refine hq.mono ?_
    rintro e w2 ⟨rfl, rfl⟩
    go_wp2_with fail
    refine hl.mono ?_
    rintro e w2 ⟨rfl, rfl⟩
    go_wp2_with fail
    go_ret
    refine ⟨?_, hb1⟩
    have e1 : (m.valve.latched = 0) = (¬ (m.valve.latched != 0) = true) := by simp
    rw [Hfl.out]
    unfold flagsM
    simp only [hon, hrq, hho, e1, hlt]
    rfl
theorem devReply_any (B a mb : Nat) (m : DevM) (F : Nat → Prop) (k n : Int) (data : List UInt8) (A : Option Addr) (len cap Br : Nat) (w : World) (hI : DevIs B w a mb m F) (hi : m.Inv) (hlen : data.length = len) (hn : 0 ≤ n ∧ n < 4294967296) (hr : Reads w Br 1 A len (u8c data)) (hB : Br ≤ w.heap.size) :
    Calls Tryz.prog 186 #[.pointer (some ⟨a, 0, none⟩), .int .i64 k, .int .u32 n, .slice A len cap] w fun e w' => ∃ x, e = .returned x ∧ w'.ownsRow w.heap.size 5 1 x (m.frame k n (if k = 20 then flagsM m.valve m.hold else 0) data).length (u8c (m.frame k n (if k = 20 then flagsM m.valve m.hold else 0) data)) ∧ Below w.heap.size w w' := by
  have hI0 := hI
  obtain ⟨⟨κ, c, d, v, g, val, hH, hF⟩, hlo⟩ := hI
  have hc := hH.blk.cell
  unfold devCells at hc
  have hp8 := hi.p8
  obtain ⟨N, hN⟩ : ∃ N : Nat, m.p.out = (N : Int) := ⟨m.p.out.toNat, by omega⟩
  have hN8 : N ≤ 8 := by omega
  have hvv : ∀ b, m.valve.value = some b → b.length = N := fun b hb => by have := hi.vval b hb; omega
  obtain ⟨fl, Hfl⟩ : ∃ x, Hid (x = if k = 20 then flagsM m.valve m.hold else 0) := ⟨_, Lib.hid rfl⟩
  rw [← Hfl.out]
  obtain ⟨fr, Hfr⟩ : ∃ fr, Hid (fr = (UnitM.mk k m.p.code m.session n fl data).encode) := ⟨_, Lib.hid rfl⟩
  rw [show m.frame k n fl data = fr from Hfr.out.symm]
  have hb1 := hH.blk.drew
  have HN := Lib.hid hN
  have Hlen := Lib.hid hlen
  clear hN hp8 hlen
  go_enter Tryz.func186, Tryz.ntmps186
  go_wp2_with fail
  go_region_held3 (fun w' => w'.cell? ⟨a, 0, none⟩ = some (.int .u32 m.p.code) ∧ w'.cell? ⟨a, 12, none⟩ = some (.int .u32 m.session)) (first | exact ⟨(hb1.cell 0).trans rfl, (hb1.cell 12).trans rfl⟩ | exact ⟨((hb1.alloc _).cell 0).trans rfl, ((hb1.alloc _).cell 12).trans rfl⟩) (fail)
  have hU := (Blk.new w 64 #[.int .i64 k, .int .u32 m.p.code, .int .u32 m.session, .int .u32 n, .int .i64 0, .slice A len cap]).drew
  have hb2 : Below w.heap.size w (w.alloc (.cells #[.int .i64 k, .int .u32 m.p.code, .int .u32 m.session, .int .u32 n, .int .i64 0, .slice A len cap] 64)).drew := ((Below.refl _ w).alloc (Nat.le_refl _) _).drew
  have hI2 := hI0.below hb2
  have hr2 := hr.below (hb2.mono hB)
  obtain ⟨u, Hu⟩ : ∃ u, Hid (u = w.heap.size) := ⟨_, Lib.hid rfl⟩
  have hs1 : w.heap.size ≤ u := by have := Hu.out; omega
  rw [← Hu.out] at hU ⊢
  generalize (w.alloc (.cells #[.int .i64 k, .int .u32 m.p.code, .int .u32 m.session, .int .u32 n, .int .i64 0, .slice A len cap] 64)).drew = W2 at *
  have hul := hU.lt
  have huc := hU.cell
  have hs2 := hb2.size
  clear hc hb1
  have hok : (0 ≤ m.p.code ∧ m.p.code < 4294967296) ∧ (0 ≤ m.session ∧ m.session < 4294967296) := ⟨hi.pok.code, hi.session⟩
  by_cases hk : k = 20
  · subst hk
    have hfl : fl = flagsM m.valve m.hold := by rw [Hfl.out, if_pos rfl]
    subst hfl
    clear Hfl
    go_wp2_with fail
    refine (devFlags_any B a mb m N F W2 hI2 HN.out hN8 hvv).mono ?_
    rintro e W3 ⟨rfl, hb3⟩
    generalize flagsM m.valve m.hold = fl at *
    have hU3 := hU.below hb3 hul
    have hb3' := hb2.trans (hb3.mono hs2)
    have hU4 : Blk (W3.setCell ⟨u, 4, none⟩ (.int .i64 fl)) u 64 #[.int .i64 20, .int .u32 m.p.code, .int .u32 m.session, .int .u32 n, .int .i64 fl, .slice A len cap] := by simpa using hU3.set_ 4 (.int .i64 fl)
    have hb4 : Below w.heap.size w (W3.setCell ⟨u, 4, none⟩ (.int .i64 fl)) := hb3'.setCell (p := ⟨u, 4, none⟩) hs1 _
    have hr4 : Reads (W3.setCell ⟨u, 4, none⟩ (.int .i64 fl)) Br 1 A len (u8c data) := (hr2.below (hb3.mono (by omega))).setCell (p := ⟨u, 4, none⟩) (show Br ≤ u by omega) _
    clear huc
    have huc := hU3.cell
    have huf := hU3.frozen
    go_wp2_with fail
    have hs4 := hb4.size
    generalize W3.setCell ⟨u, 4, none⟩ (.int .i64 fl) = W4 at *
    have henc := unitEncode_at 20 m.p.code m.session n fl data A len cap Br W4 Hlen.out hok.1 hok.2 hn hr4 (by omega)
    rw [← Hfr.out] at henc
    refine henc.mono ?_
    rintro e W5 ⟨v5, er, rfl, hown5, hb5⟩
    obtain ⟨A5, c5, rfl⟩ := own_slice hown5
    go_wp2_with fail
    go_ret
    exact ⟨_, rfl, own_base hown5 hs4, hb4.trans (hb5.mono hs4)⟩
  · have hfl : fl = 0 := by rw [Hfl.out, if_neg hk]
    subst hfl
    have gk : (k == 20) = false := by simpa using hk
    clear Hfl
    go_wp2_with fail
    have henc := unitEncode_at k m.p.code m.session n 0 data A len cap Br W2 Hlen.out hok.1 hok.2 hn hr2 (by omega)
    rw [← Hfr.out] at henc
    refine henc.mono ?_
    rintro e W5 ⟨v5, er, rfl, hown5, hb5⟩
    obtain ⟨A5, c5, rfl⟩ := own_slice hown5
    go_wp2_with fail
    go_ret
    exact ⟨_, rfl, own_base hown5 hs2, hb2.trans (hb5.mono hs2)⟩
theorem devNone_any (B a mb : Nat) (m : DevM) (F : Nat → Prop) (k n : Int) (w : World) (hI : DevIs B w a mb m F) (hi : m.Inv) (hn : 0 ≤ n ∧ n < 4294967296) (hk : k ≠ 20) :
    Calls Tryz.prog 186 #[.pointer (some ⟨a, 0, none⟩), .int .i64 k, .int .u32 n, .slice none 0 0] w fun e w' => ∃ x, e = .returned x ∧ w'.ownsRow w.heap.size 5 1 x (m.frame k n 0 []).length (u8c (m.frame k n 0 [])) ∧ Below w.heap.size w w' := by
  have := devReply_any B a mb m F k n [] none 0 0 0 w hI hi rfl hn Reads.none_ (Nat.zero_le _)
  rwa [if_neg hk] at this
theorem devOffer_any (B a mb : Nat) (m : DevM) (F : Nat → Prop) (w : World) (hI : DevIs B w a mb m F) (hi : m.Inv) :
    Calls Tryz.prog 185 #[.pointer (some ⟨a, 0, none⟩)] w fun e w' => ∃ x, e = .returned x ∧ w'.ownsRow w.heap.size 5 1 x m.offer.length (u8c m.offer) ∧ Below w.heap.size w w' := by
  have hI0 := hI
  obtain ⟨⟨κ, c, d, v, g, val, hH, hF⟩, hlo⟩ := hI
  have hc := hH.blk.cell
  unfold devCells at hc
  have hsig := paramSignature_any m.p w hi.pok hi.plaw
  unfold parVal at hsig
  obtain ⟨of, Hof⟩ : ∃ of, Hid (of = m.offer) := ⟨_, Lib.hid rfl⟩
  rw [← Hof.out]
  go_enter Tryz.func185, Tryz.ntmps185
  go_wp2_with fail
  refine hsig.mono ?_
  rintro e W1 ⟨rfl, hb1⟩
  go_wp2_with fail
  refine (paramBytes_any (crcOf 0#32 m.p.bytes) W1).mono ?_
  rintro e W2 ⟨x2, rfl, hown2, hb2⟩
  obtain ⟨A2, c2, rfl⟩ := own_slice hown2
  have hb2' := hb1.trans (hb2.mono hb1.size)
  have hs2 := hb2'.size
  have hrep := devReply_any B a mb m F 17 0 m.p.sign A2 4 c2 W2.heap.size W2 (hI0.below hb2') hi (sign_length _) (by omega) (Reads.of_own hown2) (Nat.le_refl _)
  rw [if_neg (by decide)] at hrep
  rw [show m.frame 17 0 0 m.p.sign = of from Hof.out.symm] at hrep
  go_wp2_with fail
  refine hrep.mono ?_
  rintro e W3 ⟨x3, rfl, hown3, hb3⟩
  obtain ⟨A3, c3, rfl⟩ := own_slice hown3
  go_wp2_with fail
  go_ret
  exact ⟨_, rfl, own_base hown3 hs2, hb2'.trans (hb3.mono hs2)⟩
/-- What a call leaves of a device, apart from what it answers. -/
structure DevAp (B : Nat) (w : World) (a mb : Nat) (m : DevM) (F : Nat → Prop) (x : Value) (w' : World) : Prop where
  too : DevTo B w a mb m F w'
  ap : ∃ F' : Nat → Prop, DevIs B w' a mb m F' ∧ (∀ y, F' y → grow F w w' y) ∧ ∀ y, x.ownBlock = some y → ¬ F' y
/-- What a call that answers a frame leaves. -/
def DevAns (B : Nat) (w : World) (a mb : Nat) (F : Nat → Prop) (r : DevM × List UInt8 × Int) (e : Ending) (w' : World) : Prop :=
  ∃ x, e = .returned (.tuple #[x, .int .i64 r.2.2]) ∧ w'.ownsRow w.heap.size 5 1 x r.2.1.length (u8c r.2.1) ∧ DevAp B w a mb r.1 F x w'
theorem DevAp.end_ {B : Nat} {w w1 w2 : World} {a mb n : Nat} {m m1 : DevM} {F : Nat → Prop} {x : Value} {xs : List Value} (h0 : DevIs B w a mb m F) (t : DevTo B w a mb m1 F w1) (hb : Below w1.heap.size w1 w2) (hx : w2.ownsRow w1.heap.size 5 1 x n xs) : DevAp B w a mb m1 F x w2 := by
  have hs := t.keep.size
  have hs2 := hb.size
  refine ⟨DevTo.below h0 t hb, grow F w w1, t.is_.below hb, fun y hy => hy.imp id (fun h => ⟨h.1, by omega⟩), fun y hy hF => ?_⟩
  have := (hx.lt y hy).1
  rcases hF with hF | hF
  · have := (h0.lo y hF).2; omega
  · omega
theorem DevAp.nil_ {B : Nat} {w w1 : World} {a mb c n : Nat} {m1 : DevM} {F : Nat → Prop} (t : DevTo B w a mb m1 F w1) : DevAp B w a mb m1 F (.slice none n c) w1 :=
  ⟨t, grow F w w1, t.is_, fun _ h => h, fun y hy => by simp [Value.ownBlock] at hy⟩
theorem DevAp.trans {B : Nat} {w w1 w2 : World} {a mb : Nat} {m m1 m2 : DevM} {F : Nat → Prop} {x : Value} (h0 : DevIs B w a mb m F) (t : DevTo B w a mb m1 F w1) (h : DevAp B w1 a mb m2 (grow F w w1) x w2) : DevAp B w a mb m2 F x w2 := by
  obtain ⟨F', h1, h2, h3⟩ := h.ap
  exact ⟨DevTo.trans h0 t h.too, F', h1, fun y hy => grow_grow t.keep.size h.too.keep.size y (h2 y hy), h3⟩
theorem devStuck_any (B a mb : Nat) (m : DevM) (F : Nat → Prop) (w : World) (hI : DevIs B w a mb m F) (hi : m.Inv) (hlen : m.log.length < 1073741823) :
    Calls Tryz.prog 184 #[.pointer (some ⟨a, 0, none⟩)] w fun e w' => e = .returned (.bool m.strange.2) ∧ DevTo B w a mb m.strange.1 F w' := by
  have hI0 := hI
  obtain ⟨⟨κ, c, d, v, g, val, hH, hF⟩, hlo⟩ := hI
  have hb := hH.blk
  have hc := hb.cell
  have hf := hb.frozen
  unfold devCells at hc
  have hod := hi.odd
  by_cases hbz : m.state = 2 ∨ m.state = 3 ∨ m.state = 4
  · have hbu : m.busy = true := by unfold DevM.busy; simpa using hbz
    have hwr : IntKind.i64.wrap (m.odd + 1) = m.odd + 1 := IntWalk.i64_in _ (by omega)
    have hset : Blk (w.setCell ⟨a, 15, none⟩ (.int .i64 (m.odd + 1))) a 132 (devCells { m with odd := m.odd + 1 } mb c d v g val) := by simpa [devCells] using hb.set_ 15 (.int .i64 (m.odd + 1))
    have tA := hH.toUpd hI0 hF (keepA w) (by simp [World.setCell]) hset rfl rfl rfl rfl rfl rfl rfl
    by_cases h4 : m.odd + 1 < 4
    · have e1 : m.strange = ({ m with odd := m.odd + 1 }, false) := by unfold DevM.strange; simp only [hbu, Bool.not_true, Bool.false_eq_true, if_false]; rw [if_pos h4]
      rw [e1]
      clear e1 hbu
      rcases hbz with hs | hs | hs
      all_goals
        rw [hs] at hc
        go_enter Tryz.func184, Tryz.ntmps184
        go_wp2_with fail
        go_ret
        exact ⟨rfl, tA⟩
    · have Hq : Hid (m.strange = ((if m.state = 4 then ({ m with odd := m.odd + 1 } : DevM).trip 131 else { m with odd := m.odd + 1 }).leave 1, true)) := Lib.hid (by unfold DevM.strange; simp only [hbu, Bool.not_true, Bool.false_eq_true, if_false]; rw [if_neg h4])
      clear hbu
      have notrun : ∀ s, m.state = s → (s = 2 ∨ s = 3) → Calls Tryz.prog 184 #[.pointer (some ⟨a, 0, none⟩)] w fun e w' => e = .returned (.bool m.strange.2) ∧ DevTo B w a mb m.strange.1 F w' := by
        intro s hs hcase
        rw [Hq.out, if_neg (by omega)]
        rcases hcase with rfl | rfl
        all_goals
          rw [hs] at hc
          go_enter Tryz.func184, Tryz.ntmps184
          go_wp2_with fail
          refine (devLeave_any B a mb { m with odd := m.odd + 1 } _ 1 _ tA.is_).mono ?_
          rintro e w2 ⟨rfl, t2⟩
          go_wp2_with fail
          go_ret
          exact ⟨rfl, DevTo.trans hI0 tA t2⟩
      rcases hbz with hs | hs | hs
      · exact notrun 2 hs (.inl rfl)
      · exact notrun 3 hs (.inr rfl)
      · rw [Hq.out, if_pos hs]
        rw [hs] at hc
        clear notrun Hq
        go_enter Tryz.func184, Tryz.ntmps184
        go_wp2_with fail
        refine (devTrip_any B a mb { m with odd := m.odd + 1 } _ 131 _ (by decide) tA.is_ hlen).mono ?_
        rintro e w2 ⟨rfl, t2⟩
        have t12 := DevTo.trans hI0 tA t2
        go_wp2_with fail
        refine (devLeave_any B a mb (({ m with odd := m.odd + 1 } : DevM).trip 131) _ 1 _ t12.is_).mono ?_
        rintro e w3 ⟨rfl, t3⟩
        go_wp2_with fail
        go_ret
        exact ⟨rfl, DevTo.trans hI0 t12 t3⟩
  · have hbu : m.busy = false := by unfold DevM.busy; simpa using hbz
    have e1 : m.strange = (m, false) := by unfold DevM.strange; simp [hbu]
    rw [e1]
    have g2 : (m.state != 2) = true := by simp; omega
    have g3 : (m.state != 3) = true := by simp; omega
    have g4 : (m.state != 4) = true := by simp; omega
    have n2 : ¬ m.state = 2 := by omega
    have n3 : ¬ m.state = 3 := by omega
    have n4 : ¬ m.state = 4 := by omega
    clear hbz hbu e1
    go_enter Tryz.func184, Tryz.ntmps184
    go_wp2_with fail
    go_ret
    exact ⟨rfl, DevTo.refl hI0⟩
theorem devOdds_any (B a mb : Nat) (m : DevM) (F : Nat → Prop) (er : Int) (w : World) (hI : DevIs B w a mb m F) (hi : m.Inv) (hlen : m.log.length < 1073741823) :
    Calls Tryz.prog 152 #[.pointer (some ⟨a, 0, none⟩), .int .i64 er] w fun e w' => DevAns B w a mb F (m.odds er) e w' := by
  obtain ⟨q, Hq⟩ : ∃ q, Hid (q = m.strange) := ⟨_, Lib.hid rfl⟩
  have hst := devStuck_any B a mb m F w hI hi hlen
  have hqi := hi.strange
  have Ho : Hid (m.odds er = (q.1, q.1.none, er)) := Lib.hid (by rw [Hq.out]; rfl)
  rw [← Hq.out] at hst hqi
  rw [Ho.out]
  unfold DevAns
  clear Hq Ho
  obtain ⟨k, b⟩ := q
  simp only at *
  obtain ⟨fr, Hfr⟩ : ∃ fr, Hid (fr = k.none) := ⟨_, Lib.hid rfl⟩
  rw [← Hfr.out]
  go_enter Tryz.func152, Tryz.ntmps152
  go_wp2_with fail
  refine hst.mono ?_
  rintro e W1 ⟨rfl, t1⟩
  have hrep := devNone_any B a mb k _ 22 0 W1 t1.is_ hqi (by omega) (by decide)
  rw [show k.frame 22 0 0 [] = fr from Hfr.out.symm] at hrep
  go_wp2_with fail
  refine hrep.mono ?_
  rintro e W2 ⟨x2, rfl, hown2, hb2⟩
  obtain ⟨A2, c2, rfl⟩ := own_slice hown2
  go_wp2_with fail
  have hs1 := t1.keep.size
  refine bodyPost_ret (v := .tuple #[.slice A2 fr.length c2, .int .i64 er]) (by simp [results, Tryz.results152, go_sem]) rfl ⟨_, rfl, own_base hown2 hs1, DevAp.end_ hI t1 hb2 hown2⟩
end Go.Proofs.YtlldgfejcjnpkaaGreat
/- A device's begin, asked, echoed, started. -/
namespace Go.Proofs.YtlldgfejcjnpkaaGreat
open Go.RowKit
set_option maxHeartbeats 10000000
set_option maxRecDepth 100000

theorem dtrip_log (m : DevM) (code : Int) : (m.trip code).log.length ≤ m.log.length + 1 := by
  unfold DevM.trip
  simp only
  split <;> simp [noteM]
theorem strange_log (m : DevM) : m.strange.1.log.length ≤ m.log.length + 1 := by
  unfold DevM.strange
  split
  · simp
  · simp only
    split
    · simp
    · split
      · exact dtrip_log { m with odd := m.odd + 1 } 131
      · simp [DevM.leave]
theorem devBegin_any (B a mb : Nat) (m : DevM) (F : Nat → Prop) (w : World) (hI : DevIs B w a mb m F) (hi : m.Inv) (hlen : m.log.length < 1073741822) :
    Calls Tryz.prog 187 #[.pointer (some ⟨a, 0, none⟩)] w fun e w' => DevAns B w a mb F m.begin_ e w' := by
  have hI0 := hI
  obtain ⟨⟨κ, c, d, v, g, val, hH, hF⟩, hlo⟩ := hI
  have hc := hH.blk.cell
  unfold devCells at hc
  have hnx := cellNext_any c mb m.cell m.m (Of κ 5) w hH.mem hH.cell (fun x hx => (hH.inF hx).2) (hH.kc.ne (by decide)) hi.mem ⟨hi.cval.1, by rw [hi.cmax]; exact hi.mx.2⟩
  have hnc := next_cell m.cell m.m hi.cval.1 (by rw [hi.cmax]; exact hi.mx.2) hi.cval.2
  have hnl := next_len m.cell m.m
  have hne := next_err m.cell m.m
  obtain ⟨q, Hq⟩ : ∃ q, Hid (q = m.begin_) := ⟨_, Lib.hid rfl⟩
  have Hq1 : Hid (q = (if (m.cell.next m.m).2.2.2 = 80 then ((({ m with cell := (m.cell.next m.m).1, m := (m.cell.next m.m).2.1 } : DevM).trip 80).leave 5, ((({ m with cell := (m.cell.next m.m).1, m := (m.cell.next m.m).2.1 } : DevM).trip 80).leave 5).none, 80)
    else if (m.cell.next m.m).2.2.2 ≠ 0 then (({ m with cell := (m.cell.next m.m).1, m := (m.cell.next m.m).2.1 } : DevM).life 6, [], 70)
    else ({ (({ m with cell := (m.cell.next m.m).1, m := (m.cell.next m.m).2.1 } : DevM).leave 2) with session := (m.cell.next m.m).2.2.1 }, DevM.offer { (({ m with cell := (m.cell.next m.m).1, m := (m.cell.next m.m).2.1 } : DevM).leave 2) with session := (m.cell.next m.m).2.2.1 }, 0))) := Lib.hid (by rw [Hq.out]; rfl)
  rw [← Hq.out]
  have hcm := hi.cmax
  have hme := hi.mem
  generalize m.cell.next m.m = r at *
  obtain ⟨c', m', s, er⟩ := r
  simp only at hnx hnc hnl hne
  have hgi : ({ m with cell := c', m := m' } : DevM).Inv := { hi with cmax := by simp only; omega, cval := hnc.2.1, mem := by simp only; omega }
  clear Hq hcm hme hnl
  unfold DevAns
  rcases hne with rfl | rfl | rfl
  · have hq := Hq1.out
    rw [if_neg (by simp), if_neg (by simp)] at hq
    subst hq
    clear Hq1
    have hki : ({ (({ m with cell := c', m := m' } : DevM).leave 2) with session := s } : DevM).Inv := { hgi.leave 2 (by omega) with session := hnc.2.2 }
    obtain ⟨of, Hof⟩ : ∃ of, Hid (of = DevM.offer { (({ m with cell := c', m := m' } : DevM).leave 2) with session := s }) := ⟨_, Lib.hid rfl⟩
    simp only
    rw [← Hof.out]
    go_enter Tryz.func187, Tryz.ntmps187
    go_wp2_with fail
    refine hnx.mono ?_
    rintro e W1 ⟨rfl, hm1, hc1, hk1⟩
    have t1 := hH.toCell hI0 hF hm1 hc1 hk1
    go_wp2_with fail
    refine (devLeave_any B a mb _ _ 2 W1 t1.is_).mono ?_
    rintro e W2 ⟨rfl, t2⟩
    have t12 := DevTo.trans hI0 t1 t2
    obtain ⟨⟨κ2, c2, d2, v2, g2, val2, h2, hF2⟩, hlo2⟩ := t12.is_
    have hb2 := h2.blk
    clear hc
    have hc := hb2.cell
    have hf := hb2.frozen
    unfold devCells at hc
    have t3 : DevTo B W2 a mb { (({ m with cell := c', m := m' } : DevM).leave 2) with session := s } (grow F w W2) (W2.setCell ⟨a, 12, none⟩ (.int .u32 s)) :=
      h2.toUpd t12.is_ hF2 (keepA W2) (by simp [World.setCell]) (by simpa [devCells] using hb2.set_ 12 (.int .u32 s)) rfl rfl rfl rfl rfl rfl rfl
    have t13 := DevTo.trans hI0 t12 t3
    have hoff := devOffer_any B a mb _ _ _ t13.is_ hki
    rw [← Hof.out] at hoff
    go_wp2_with fail
    refine hoff.mono ?_
    rintro e W3 ⟨x3, rfl, hown3, hb3⟩
    obtain ⟨A3, c3, rfl⟩ := own_slice hown3
    go_wp2_with fail
    have hs3 := t13.keep.size
    refine bodyPost_ret (v := .tuple #[.slice A3 of.length c3, .int .i64 0]) (by simp [results, Tryz.results187, go_sem]) rfl ⟨_, rfl, own_base hown3 hs3, DevAp.end_ hI0 t13 hb3 hown3⟩
  · have hq := Hq1.out
    rw [if_neg (by simp), if_pos (by simp)] at hq
    subst hq
    clear Hq1
    go_enter Tryz.func187, Tryz.ntmps187
    go_wp2_with fail
    refine hnx.mono ?_
    rintro e W1 ⟨rfl, hm1, hc1, hk1⟩
    have t1 := hH.toCell hI0 hF hm1 hc1 hk1
    go_wp2_with fail
    refine (devDown_any B a mb _ _ W1 t1.is_ hi.plaw).mono ?_
    rintro e W2 ⟨rfl, t2⟩
    have t12 := DevTo.trans hI0 t1 t2
    go_wp2_with fail
    refine bodyPost_ret (v := .tuple #[.slice none 0 0, .int .i64 70]) (by simp [results, Tryz.results187, go_sem]) rfl ⟨_, rfl, World.ownsRow_nil _ _ _ _, DevAp.nil_ t12⟩
  · have hq := Hq1.out
    rw [if_pos rfl] at hq
    subst hq
    clear Hq1
    have hki := (hgi.trip 80).leave 5 (by omega)
    obtain ⟨of, Hof⟩ : ∃ of, Hid (of = ((({ m with cell := c', m := m' } : DevM).trip 80).leave 5).none) := ⟨_, Lib.hid rfl⟩
    simp only
    rw [← Hof.out]
    go_enter Tryz.func187, Tryz.ntmps187
    go_wp2_with fail
    refine hnx.mono ?_
    rintro e W1 ⟨rfl, hm1, hc1, hk1⟩
    have t1 := hH.toCell hI0 hF hm1 hc1 hk1
    go_wp2_with fail
    refine (devTrip_any B a mb _ _ 80 W1 (by decide) t1.is_ (by simp only; omega)).mono ?_
    rintro e W2 ⟨rfl, t2⟩
    have t12 := DevTo.trans hI0 t1 t2
    go_wp2_with fail
    refine (devLeave_any B a mb _ _ 5 W2 t12.is_).mono ?_
    rintro e W3 ⟨rfl, t3⟩
    have t13 := DevTo.trans hI0 t12 t3
    have hrep := devNone_any B a mb _ _ 22 0 W3 t13.is_ hki (by omega) (by decide)
    rw [show DevM.frame _ 22 0 0 [] = of from Hof.out.symm] at hrep
    go_wp2_with fail
    refine hrep.mono ?_
    rintro e W4 ⟨x4, rfl, hown4, hb4⟩
    obtain ⟨A4, c4, rfl⟩ := own_slice hown4
    go_wp2_with fail
    have hs3 := t13.keep.size
    refine bodyPost_ret (v := .tuple #[.slice A4 of.length c4, .int .i64 80]) (by simp [results, Tryz.results187, go_sem]) rfl ⟨_, rfl, own_base hown4 hs3, DevAp.end_ hI0 t13 hb4 hown4⟩
theorem devStarted_any (B a mb : Nat) (m : DevM) (F : Nat → Prop) (w : World) (hI : DevIs B w a mb m F) (hi : m.Inv) :
    Calls Tryz.prog 148 #[.pointer (some ⟨a, 0, none⟩)] w fun e w' => DevAns B w a mb F ((if m.state = 3 then (({ m with state := 4 } : DevM).run true).alive else m), (if m.state = 3 then (({ m with state := 4 } : DevM).run true).alive else m).frame 19 0 0 [], 0) e w' := by
  have hI0 := hI
  obtain ⟨⟨κ, c, d, v, g, val, hH, hF⟩, hlo⟩ := hI
  have hb := hH.blk
  have hc := hb.cell
  have hf := hb.frozen
  unfold devCells at hc
  unfold DevAns
  by_cases h3 : m.state = 3
  · rw [if_pos h3]
    have hki := ((hi.toSt 4 (by omega)).run true).alive
    obtain ⟨of, Hof⟩ : ∃ of, Hid (of = ((({ m with state := 4 } : DevM).run true).alive).frame 19 0 0 []) := ⟨_, Lib.hid rfl⟩
    simp only
    rw [← Hof.out]
    rw [h3] at hc
    have hset : Blk (w.setCell ⟨a, 11, none⟩ (.int .i64 4)) a 132 (devCells { m with state := 4 } mb c d v g val) := by simpa [devCells] using hb.set_ 11 (.int .i64 4)
    have tA := hH.toUpd hI0 hF (keepA w) (by simp [World.setCell]) hset rfl rfl rfl rfl rfl rfl rfl
    have hA := hH.upd (keepA w) (by simp [World.setCell]) hset rfl rfl rfl rfl rfl rfl rfl
    go_enter Tryz.func148, Tryz.ntmps148
    go_wp2_with fail
    refine (valveRun_any v m.valve _ _ true _ hA.valve).mono ?_
    rintro e W2 ⟨rfl, hv2, hk2, hs2⟩
    have t2 := hA.toValve tA.is_ (fun x hx => .inl (hF x hx)) hv2 hk2 (fun x hx => .inl hx)
    have t12 : DevTo B w a mb (({ m with state := 4 } : DevM).run true) F W2 := DevTo.trans hI0 tA t2
    clear hs2
    go_wp2_with fail
    refine (devAlive_any B a mb (({ m with state := 4 } : DevM).run true) _ W2 t12.is_).mono ?_
    rintro e W3 ⟨rfl, t3⟩
    have t13 := DevTo.trans hI0 t12 t3
    have hrep := devNone_any B a mb _ _ 19 0 W3 t13.is_ hki (by omega) (by decide)
    rw [← Hof.out] at hrep
    go_wp2_with fail
    refine hrep.mono ?_
    rintro e W4 ⟨x4, rfl, hown4, hb4⟩
    obtain ⟨A4, c4, rfl⟩ := own_slice hown4
    go_wp2_with fail
    have hs3 := t13.keep.size
    refine bodyPost_ret (v := .tuple #[.slice A4 of.length c4, .int .i64 0]) (by simp [results, Tryz.results148, go_sem]) rfl ⟨_, rfl, own_base hown4 hs3, DevAp.end_ hI0 t13 hb4 hown4⟩
  · rw [if_neg h3]
    obtain ⟨of, Hof⟩ : ∃ of, Hid (of = m.frame 19 0 0 []) := ⟨_, Lib.hid rfl⟩
    simp only
    rw [← Hof.out]
    have g3 : (m.state == 3) = false := by simpa using h3
    have hrep := devNone_any B a mb m F 19 0 w hI0 hi (by omega) (by decide)
    rw [← Hof.out] at hrep
    go_enter Tryz.func148, Tryz.ntmps148
    go_wp2_with fail
    refine hrep.mono ?_
    rintro e W4 ⟨x4, rfl, hown4, hb4⟩
    obtain ⟨A4, c4, rfl⟩ := own_slice hown4
    go_wp2_with fail
    refine bodyPost_ret (v := .tuple #[.slice A4 of.length c4, .int .i64 0]) (by simp [results, Tryz.results148, go_sem]) rfl ⟨_, rfl, hown4, DevAp.end_ hI0 (DevTo.refl hI0) hb4 hown4⟩
end Go.Proofs.YtlldgfejcjnpkaaGreat
/- A device is asked for a session; its signature comes back. -/
namespace Go.Proofs.YtlldgfejcjnpkaaGreat
open Go.RowKit
set_option maxHeartbeats 10000000
set_option maxRecDepth 100000

theorem DevAns.of {B : Nat} {w w1 : World} {a mb : Nat} {m1 m : DevM} {F : Nat → Prop} {r : DevM × List UInt8 × Int} {e : Ending} {w' : World} (hI : DevIs B w a mb m F) (t : DevTo B w a mb m1 F w1) (h : DevAns B w1 a mb (grow F w w1) r e w') : DevAns B w a mb F r e w' := by
  obtain ⟨x, he, ho, t2⟩ := h
  exact ⟨x, he, own_base ho t.keep.size, DevAp.trans hI t t2⟩
theorem devS5 {w : World} {a mb c d v g u : Nat} {m : DevM} {val : Value} {x0 x1 x2 x3 x4 x5 : Value} (h : Blk w a 132 (devCells m mb c d v g val)) (hu : Blk w u 64 #[x0, x1, x2, x3, x4, x5]) :
    w.cell? ⟨a, 0, none⟩ = some (.int .u32 m.p.code) ∧ w.cell? ⟨a, 1, none⟩ = some (.int .i64 m.p.out) ∧ w.cell? ⟨a, 2, none⟩ = some (.int .i64 m.p.inn) ∧ w.cell? ⟨a, 3, none⟩ = some (.int .i64 m.p.watch) ∧ w.cell? ⟨a, 4, none⟩ = some (.int .u32 m.p.count) ∧ w.cell? ⟨u, 5, none⟩ = some x5 :=
  ⟨(h.cell 0).trans rfl, (h.cell 1).trans rfl, (h.cell 2).trans rfl, (h.cell 3).trans rfl, (h.cell 4).trans rfl, (hu.cell 5).trans rfl⟩
theorem devAsked_any (B a mb : Nat) (m : DevM) (F : Nat → Prop) (kind code session number flags : Int) (data : List UInt8) (A : Option Addr) (cA Br : Nat) (w : World) (hI : DevIs B w a mb m F) (hi : m.Inv) (hlen : m.log.length < 1073741800) (hr : Reads w Br 1 A data.length (u8c data)) (hB : Br ≤ w.heap.size) (hd : data.length ≤ 1000) :
    Calls Tryz.prog 146 #[.pointer (some ⟨a, 0, none⟩), .agg #[.int .i64 kind, .int .u32 code, .int .u32 session, .int .u32 number, .int .i64 flags, .slice A data.length cA]] w fun e w' => DevAns B w a mb F (if data = m.p.sign then m.wish else m.odds 91) e w' := by
  have hI0 := hI
  obtain ⟨⟨κ, c, d, v, g, val, hH, hF⟩, hlo⟩ := hI
  have hU0 := Blk.new w 64 #[.int .i64 kind, .int .u32 code, .int .u32 session, .int .u32 number, .int .i64 flags, .slice A data.length cA]
  have hb1 : Below w.heap.size w (w.alloc (.cells #[.int .i64 kind, .int .u32 code, .int .u32 session, .int .u32 number, .int .i64 flags, .slice A data.length cA] 64)).drew := ((Below.refl _ _).alloc (Nat.le_refl _) _).drew
  have hmat := paramMatch_any m.p A data.length cA Br data _ hi.pok hi.plaw (hr.below (hb1.mono hB)) (Nat.le_trans hB hb1.size) hd
  unfold parVal at hmat
  have hI1 := hI0.below hb1
  have h1 := hH.below hb1
  have hbA := h1.blk
  have hU := hU0.drew
  obtain ⟨q, Hq⟩ : ∃ q, Hid (q = if data = m.p.sign then m.wish else m.odds 91) := ⟨_, Lib.hid rfl⟩
  rw [← Hq.out]
  have hs1 := hb1.size
  go_enter Tryz.func146, Tryz.ntmps146
  go_upto_region 1 with fail
  obtain ⟨u, Hu⟩ : ∃ u, Hid (u = w.heap.size) := ⟨_, Lib.hid rfl⟩
  rw [← Hu.out] at hU ⊢
  go_wp2_with fail
  generalize w.alloc (.cells #[.int .i64 kind, .int .u32 code, .int .u32 session, .int .u32 number, .int .i64 flags, .slice A data.length cA] 64) = W0 at *
  have hul := hU.lt
  have hal := hbA.lt
  go_region_held3 (fun w' => w'.cell? ⟨a, 0, none⟩ = some (.int .u32 m.p.code) ∧ w'.cell? ⟨a, 1, none⟩ = some (.int .i64 m.p.out) ∧ w'.cell? ⟨a, 2, none⟩ = some (.int .i64 m.p.inn) ∧ w'.cell? ⟨a, 3, none⟩ = some (.int .i64 m.p.watch) ∧ w'.cell? ⟨a, 4, none⟩ = some (.int .u32 m.p.count) ∧ w'.cell? ⟨u, 5, none⟩ = some (.slice A data.length cA)) (with_reducible (first | exact devS5 hbA hU)) (first
    | (go_at_call 183; refine hmat.mono ?_; rintro e W2 ⟨rfl, hbm⟩; replace hbA := hbA.below hbm hal; replace hU := hU.below hbm hul))
  have hb2 : Below w.heap.size w W2 := hb1.trans (hbm.mono hs1)
  have t2 : DevTo B w a mb m F W2 := .ofBelow hI0 hb2
  have hc := hbA.cell
  unfold devCells at hc
  have hs2 := hb2.size
  clear hmat hbA hU hul hal hbm h1 hI1 hb1 hs1
  by_cases hds : data = m.p.sign
  · have hq : q = m.wish := by rw [Hq.out, if_pos hds]
    rw [decide_eq_true hds]
    clear Hq hds hr
    by_cases hbz : m.state = 2 ∨ m.state = 3 ∨ m.state = 4
    · have hbu : m.busy = true := by unfold DevM.busy; simpa using hbz
      have hw : q = if m.strange.2 then m.strange.1.begin_ else if m.strange.1.state = 2 then (m.strange.1, m.strange.1.offer, 130) else (m.strange.1, m.strange.1.none, 130) := by rw [hq]; unfold DevM.wish; rw [if_pos hbu]
      have hst := devStuck_any B a mb m _ W2 t2.is_ hi (by omega)
      have hsl := strange_log m
      have hsi := hi.strange
      clear hq hbu
      generalize m.strange = k at *
      obtain ⟨k, b⟩ := k
      simp only at hst hsl hsi
      cases b with
      | true =>
        simp only [if_true] at hw
        have hbeg := fun W3 hI => devBegin_any B a mb k (grow F w W3) W3 hI hsi (by omega)
        rw [← hw] at hbeg
        clear hw
        rcases hbz with hs | hs | hs
        all_goals
          rw [hs] at hc
          go_wp2_with (go_at_call 184; refine hst.mono ?_; rintro e W3 ⟨rfl, t3⟩)
          have t23 := DevTo.trans hI0 t2 t3
          refine (hbeg W3 t23.is_).mono ?_
          rintro e W4 h4
          have h5 := DevAns.of hI0 t23 h4
          obtain ⟨x5, rfl, ho5, t5⟩ := h5
          obtain ⟨A5, c5, rfl⟩ := own_slice ho5
          go_wp2_with fail
          refine bodyPost_ret (v := .tuple #[.slice A5 q.2.1.length c5, .int .i64 q.2.2]) (by simp [results, Tryz.results146, go_sem]) rfl ⟨_, rfl, ho5, t5⟩
      | false =>
        simp only [Bool.false_eq_true, if_false] at hw
        by_cases hk2 : k.state = 2
        · rw [if_pos hk2] at hw
          obtain ⟨of, Hof⟩ : ∃ of, Hid (of = k.offer) := ⟨_, Lib.hid rfl⟩
          rw [← Hof.out] at hw
          subst hw
          rcases hbz with hs | hs | hs
          all_goals
            rw [hs] at hc
            go_wp2_with (go_at_call 184; refine hst.mono ?_; rintro e W3 ⟨rfl, t3⟩; obtain ⟨⟨κ3, c3, d3, v3, g3, val3, h3, hF3⟩, hlo3⟩ := t3.is_; have hc3 := h3.blk.cell; unfold devCells at hc3; rw [hk2] at hc3)
            have t23 := DevTo.trans hI0 t2 t3
            have hoff := devOffer_any B a mb k _ W3 t23.is_ hsi
            rw [← Hof.out] at hoff
            refine hoff.mono ?_
            rintro e W4 ⟨x4, rfl, hown4, hb4⟩
            obtain ⟨A4, c4, rfl⟩ := own_slice hown4
            go_wp2_with fail
            have hs3 := t23.keep.size
            refine bodyPost_ret (v := .tuple #[.slice A4 of.length c4, .int .i64 130]) (by simp [results, Tryz.results146, go_sem]) rfl ⟨_, rfl, own_base hown4 hs3, DevAp.end_ hI0 t23 hb4 hown4⟩
        · rw [if_neg hk2] at hw
          have gk2 : (k.state == 2) = false := by simpa using hk2
          obtain ⟨of, Hof⟩ : ∃ of, Hid (of = k.none) := ⟨_, Lib.hid rfl⟩
          rw [← Hof.out] at hw
          subst hw
          rcases hbz with hs | hs | hs
          all_goals
            rw [hs] at hc
            go_wp2_with (go_at_call 184; refine hst.mono ?_; rintro e W3 ⟨rfl, t3⟩; obtain ⟨⟨κ3, c3, d3, v3, g3, val3, h3, hF3⟩, hlo3⟩ := t3.is_; have hc3 := h3.blk.cell; unfold devCells at hc3)
            have t23 := DevTo.trans hI0 t2 t3
            have hoff := devNone_any B a mb k _ 22 0 W3 t23.is_ hsi (by omega) (by decide)
            rw [show k.frame 22 0 0 [] = of from Hof.out.symm] at hoff
            refine hoff.mono ?_
            rintro e W4 ⟨x4, rfl, hown4, hb4⟩
            obtain ⟨A4, c4, rfl⟩ := own_slice hown4
            go_wp2_with fail
            have hs3 := t23.keep.size
            refine bodyPost_ret (v := .tuple #[.slice A4 of.length c4, .int .i64 130]) (by simp [results, Tryz.results146, go_sem]) rfl ⟨_, rfl, own_base hown4 hs3, DevAp.end_ hI0 t23 hb4 hown4⟩
    · have hbu : m.busy = false := by unfold DevM.busy; simpa using hbz
      have e1 : m.wish = m.begin_ := by unfold DevM.wish; simp [hbu]
      rw [e1] at hq
      have g2 : (m.state == 2) = false := by simp; omega
      have g3 : (m.state == 3) = false := by simp; omega
      have g4 : (m.state == 4) = false := by simp; omega
      have hbeg := devBegin_any B a mb m _ W2 t2.is_ hi (by omega)
      rw [← hq] at hbeg
      clear hbu hbz e1 hq
      go_wp2_with fail
      refine hbeg.mono ?_
      rintro e W4 h4
      have h5 := DevAns.of hI0 t2 h4
      obtain ⟨x5, rfl, ho5, t5⟩ := h5
      obtain ⟨A5, c5, rfl⟩ := own_slice ho5
      go_wp2_with fail
      refine bodyPost_ret (v := .tuple #[.slice A5 q.2.1.length c5, .int .i64 q.2.2]) (by simp [results, Tryz.results146, go_sem]) rfl ⟨_, rfl, ho5, t5⟩
  · have hq : q = m.odds 91 := by rw [Hq.out, if_neg hds]
    rw [decide_eq_false hds]
    clear hds hr Hq
    have hod := devOdds_any B a mb m _ 91 W2 t2.is_ hi (by omega)
    rw [← hq] at hod
    clear hq
    go_wp2_with fail
    refine hod.mono ?_
    rintro e W4 h4
    have h5 := DevAns.of hI0 t2 h4
    obtain ⟨x5, rfl, ho5, t5⟩ := h5
    obtain ⟨A5, c5, rfl⟩ := own_slice ho5
    go_wp2_with fail
    refine bodyPost_ret (v := .tuple #[.slice A5 q.2.1.length c5, .int .i64 q.2.2]) (by simp [results, Tryz.results146, go_sem]) rfl ⟨_, rfl, ho5, t5⟩
theorem devEchoed_any (B a mb : Nat) (m : DevM) (F : Nat → Prop) (kind code session number flags : Int) (data : List UInt8) (A : Option Addr) (cA Br : Nat) (w : World) (hI : DevIs B w a mb m F) (hi : m.Inv) (hlen : m.log.length < 1073741800) (hr : Reads w Br 1 A data.length (u8c data)) (hB : Br ≤ w.heap.size) (hd : data.length ≤ 1000) :
    Calls Tryz.prog 147 #[.pointer (some ⟨a, 0, none⟩), .agg #[.int .i64 kind, .int .u32 code, .int .u32 session, .int .u32 number, .int .i64 flags, .slice A data.length cA]] w fun e w' => DevAns B w a mb F (if data ≠ m.p.sign then m.odds 91 else ((if m.state = 2 then ({ m with state := 3 } : DevM).alive else m), (if m.state = 2 then ({ m with state := 3 } : DevM).alive else m).frame 18 0 0 [], 0)) e w' := by
  have hI0 := hI
  obtain ⟨⟨κ, c, d, v, g, val, hH, hF⟩, hlo⟩ := hI
  have hU0 := Blk.new w 64 #[.int .i64 kind, .int .u32 code, .int .u32 session, .int .u32 number, .int .i64 flags, .slice A data.length cA]
  have hb1 : Below w.heap.size w (w.alloc (.cells #[.int .i64 kind, .int .u32 code, .int .u32 session, .int .u32 number, .int .i64 flags, .slice A data.length cA] 64)).drew := ((Below.refl _ _).alloc (Nat.le_refl _) _).drew
  have hmat := paramMatch_any m.p A data.length cA Br data _ hi.pok hi.plaw (hr.below (hb1.mono hB)) (Nat.le_trans hB hb1.size) hd
  unfold parVal at hmat
  have hI1 := hI0.below hb1
  have h1 := hH.below hb1
  have hbA := h1.blk
  have hU := hU0.drew
  obtain ⟨q, Hq⟩ : ∃ q, Hid (q = if data ≠ m.p.sign then m.odds 91 else ((if m.state = 2 then ({ m with state := 3 } : DevM).alive else m), (if m.state = 2 then ({ m with state := 3 } : DevM).alive else m).frame 18 0 0 [], 0)) := ⟨_, Lib.hid rfl⟩
  rw [← Hq.out]
  have hs1 := hb1.size
  go_enter Tryz.func147, Tryz.ntmps147
  go_upto_region 1 with fail
  obtain ⟨u, Hu⟩ : ∃ u, Hid (u = w.heap.size) := ⟨_, Lib.hid rfl⟩
  rw [← Hu.out] at hU ⊢
  go_wp2_with fail
  generalize w.alloc (.cells #[.int .i64 kind, .int .u32 code, .int .u32 session, .int .u32 number, .int .i64 flags, .slice A data.length cA] 64) = W0 at *
  have hul := hU.lt
  have hal := hbA.lt
  go_region_held3 (fun w' => w'.cell? ⟨a, 0, none⟩ = some (.int .u32 m.p.code) ∧ w'.cell? ⟨a, 1, none⟩ = some (.int .i64 m.p.out) ∧ w'.cell? ⟨a, 2, none⟩ = some (.int .i64 m.p.inn) ∧ w'.cell? ⟨a, 3, none⟩ = some (.int .i64 m.p.watch) ∧ w'.cell? ⟨a, 4, none⟩ = some (.int .u32 m.p.count) ∧ w'.cell? ⟨u, 5, none⟩ = some (.slice A data.length cA)) (with_reducible (first | exact devS5 hbA hU)) (first
    | (go_at_call 183; refine hmat.mono ?_; rintro e W2 ⟨rfl, hbm⟩; replace hbA := hbA.below hbm hal; replace hU := hU.below hbm hul))
  have hb2 : Below w.heap.size w W2 := hb1.trans (hbm.mono hs1)
  have t2 : DevTo B w a mb m F W2 := .ofBelow hI0 hb2
  have hH2 : DevAt B W2 a mb m κ c d v g val := hH.below hb2
  have hc := hbA.cell
  have hf := hbA.frozen
  have hs2 := hb2.size
  by_cases hds : data = m.p.sign
  · rw [decide_eq_true hds]
    clear hmat hU hul hal hbm h1 hI1 hb1 hs1
    by_cases hs : m.state = 2
    · have hq : q = (({ m with state := 3 } : DevM).alive, (({ m with state := 3 } : DevM).alive).frame 18 0 0 [], 0) := by rw [Hq.out, if_neg (by simpa using hds), if_pos hs]
      have hki := (hi.toSt 3 (by omega)).alive
      obtain ⟨of, Hof⟩ : ∃ of, Hid (of = ((({ m with state := 3 } : DevM).alive)).frame 18 0 0 []) := ⟨_, Lib.hid rfl⟩
      rw [← Hof.out] at hq
      subst hq
      clear Hq hds hr
      have hset : Blk (W2.setCell ⟨a, 11, none⟩ (.int .i64 3)) a 132 (devCells { m with state := 3 } mb c d v g val) := by simpa [devCells] using hbA.set_ 11 (.int .i64 3)
      have tA := hH2.toUpd t2.is_ (fun x hx => .inl (hF x hx)) (keepA W2) (by simp [World.setCell]) hset rfl rfl rfl rfl rfl rfl rfl
      have t12 := DevTo.trans hI0 t2 tA
      unfold devCells at hc
      rw [hs] at hc
      go_wp2_with fail
      refine (devAlive_any B a mb { m with state := 3 } _ _ t12.is_).mono ?_
      rintro e W3 ⟨rfl, t3⟩
      have t13 := DevTo.trans hI0 t12 t3
      have hrep := devNone_any B a mb _ _ 18 0 W3 t13.is_ hki (by omega) (by decide)
      rw [← Hof.out] at hrep
      go_wp2_with fail
      refine hrep.mono ?_
      rintro e W4 ⟨x4, rfl, hown4, hb4⟩
      obtain ⟨A4, c4, rfl⟩ := own_slice hown4
      go_wp2_with fail
      have hs3 := t13.keep.size
      refine bodyPost_ret (v := .tuple #[.slice A4 of.length c4, .int .i64 0]) (by simp [results, Tryz.results147, go_sem]) rfl ⟨_, rfl, own_base hown4 hs3, DevAp.end_ hI0 t13 hb4 hown4⟩
    · have hq : q = (m, m.frame 18 0 0 [], 0) := by rw [Hq.out, if_neg (by simpa using hds), if_neg hs]
      have gs : (m.state == 2) = false := by simpa using hs
      obtain ⟨of, Hof⟩ : ∃ of, Hid (of = m.frame 18 0 0 []) := ⟨_, Lib.hid rfl⟩
      rw [← Hof.out] at hq
      subst hq
      clear Hq hds hr
      have hrep := devNone_any B a mb _ _ 18 0 W2 t2.is_ hi (by omega) (by decide)
      rw [← Hof.out] at hrep
      unfold devCells at hc
      go_wp2_with fail
      refine hrep.mono ?_
      rintro e W4 ⟨x4, rfl, hown4, hb4⟩
      obtain ⟨A4, c4, rfl⟩ := own_slice hown4
      go_wp2_with fail
      refine bodyPost_ret (v := .tuple #[.slice A4 of.length c4, .int .i64 0]) (by simp [results, Tryz.results147, go_sem]) rfl ⟨_, rfl, own_base hown4 hs2, DevAp.end_ hI0 t2 hb4 hown4⟩
  · have hq : q = m.odds 91 := by rw [Hq.out, if_pos hds]
    rw [decide_eq_false hds]
    clear hds hr Hq
    have hod := devOdds_any B a mb m _ 91 W2 t2.is_ hi (by omega)
    rw [← hq] at hod
    clear hq hmat hU hul hal hbm h1 hI1 hb1 hs1
    go_wp2_with fail
    refine hod.mono ?_
    rintro e W4 h4
    have h5 := DevAns.of hI0 t2 h4
    obtain ⟨x5, rfl, ho5, t5⟩ := h5
    obtain ⟨A5, c5, rfl⟩ := own_slice ho5
    go_wp2_with fail
    refine bodyPost_ret (v := .tuple #[.slice A5 q.2.1.length c5, .int .i64 q.2.2]) (by simp [results, Tryz.results147, go_sem]) rfl ⟨_, rfl, ho5, t5⟩
end Go.Proofs.YtlldgfejcjnpkaaGreat
/- A device takes a value; the last unit. -/
namespace Go.Proofs.YtlldgfejcjnpkaaGreat
open Go.RowKit
set_option maxHeartbeats 10000000
set_option maxRecDepth 100000

theorem devNext_any (B a mb : Nat) (m : DevM) (F : Nat → Prop) (kind code session number flags : Int) (sl : Value) (w : World) (hI : DevIs B w a mb m F) :
    Calls Tryz.prog 149 #[.pointer (some ⟨a, 0, none⟩), .agg #[.int .i64 kind, .int .u32 code, .int .u32 session, .int .u32 number, .int .i64 flags, sl]] w fun e w' => e = .returned (.bool (decide (m.state = 4 ∧ session = m.session ∧ m.number < number))) ∧ Below w.heap.size w w' := by
  obtain ⟨⟨κ, c, d, v, g, val, hH, hF⟩, hlo⟩ := hI
  have hb1 : Below w.heap.size w (w.alloc (.cells #[.int .i64 kind, .int .u32 code, .int .u32 session, .int .u32 number, .int .i64 flags, sl] 64)) := (Below.refl _ _).alloc (Nat.le_refl _) _
  have hc := (hH.below hb1).blk.cell
  unfold devCells at hc
  obtain ⟨r, Hr⟩ : ∃ r, Hid (r = decide (m.state = 4 ∧ session = m.session ∧ m.number < number)) := ⟨_, Lib.hid rfl⟩
  rw [← Hr.out]
  by_cases h4 : m.state = 4
  · rw [h4] at hc
    by_cases hs : m.session = session
    · have gs : (m.session == session) = true := by simpa using hs
      by_cases hn : m.number < number
      · have er : r = true := by rw [Hr.out]; simp [h4, hs, hn]
        subst er
        clear Hr
        go_enter Tryz.func149, Tryz.ntmps149
        go_wp2_with fail
        go_big_quiet (fail)
        go_wp2_with fail
        go_ret
        exact ⟨rfl, belowN hb1 _⟩
      · have er : r = false := by rw [Hr.out]; simp [hn]
        subst er
        clear Hr
        go_enter Tryz.func149, Tryz.ntmps149
        go_wp2_with fail
        go_big_quiet (fail)
        go_wp2_with fail
        go_ret
        exact ⟨by simp [hn], belowN hb1 _⟩
    · have gs : (m.session == session) = false := by simpa using hs
      have er : r = false := by rw [Hr.out]; simp [Ne.symm hs]
      subst er
      clear Hr
      go_enter Tryz.func149, Tryz.ntmps149
      go_wp2_with fail
      go_big_quiet (fail)
      go_wp2_with fail
      go_ret
      exact ⟨rfl, belowN hb1 _⟩
  · have g4 : (m.state == 4) = false := by simpa using h4
    have er : r = false := by rw [Hr.out]; simp [h4]
    subst er
    clear Hr
    go_enter Tryz.func149, Tryz.ntmps149
    go_wp2_with fail
    go_big_quiet (fail)
    go_wp2_with fail
    go_ret
    exact ⟨rfl, belowN hb1 _⟩
theorem DevTo.of2 {B : Nat} {w w1 w2 : World} {a mb : Nat} {m m' : DevM} {F : Nat → Prop} (hI : DevIs B w a mb m F) (hk : Keep F w w1) (t : DevTo B w1 a mb m' F w2) : DevTo B w a mb m' F w2 := by
  obtain ⟨⟨κ, c, d, v, g, val, h, hF⟩, hlo⟩ := t.is_
  have s1 := hk.size
  have s2 := t.keep.size
  exact ⟨⟨⟨κ, c, d, v, g, val, h, fun x hx => (hF x hx).imp id (fun hx => ⟨by omega, hx.2⟩)⟩, grow_fb hI.lo hI.Ble (by omega)⟩, hk.andThen t.keep (fun _ _ h => h)⟩
theorem DevAp.of2 {B : Nat} {w w1 w2 : World} {a mb : Nat} {m m' : DevM} {F : Nat → Prop} {x : Value} (hI : DevIs B w a mb m F) (hk : Keep F w w1) (h : DevAp B w1 a mb m' F x w2) : DevAp B w a mb m' F x w2 := by
  obtain ⟨F', h1, h2, h3⟩ := h.ap
  have s1 := hk.size
  exact ⟨DevTo.of2 hI hk h.too, F', h1, fun y hy => (h2 y hy).imp id (fun hx => ⟨by omega, hx.2⟩), h3⟩
theorem devFed_any (B a mb : Nat) (m : DevM) (F : Nat → Prop) (kind code session number flags : Int) (data : List UInt8) (A : Option Addr) (cA Br : Nat) (w : World) (hI : DevIs B w a mb m F) (hi : m.Inv) (hn : m.number < number) (hn2 : number < m.p.count) (hfl : 0 ≤ flags ∧ flags ≤ 15) (h3 : (data.length : Int) = m.p.out)
    (hr : Reads w Br 1 A data.length (u8c data)) (hB : Br ≤ w.heap.size) (haf : ∀ ad, A = some ad → ¬ F ad.block) :
    Calls Tryz.prog 150 #[.pointer (some ⟨a, 0, none⟩), .agg #[.int .i64 kind, .int .u32 code, .int .u32 session, .int .u32 number, .int .i64 flags, .slice A data.length cA]] w fun e w' =>
      DevAns B w a mb F ({ ({ m with number := number } : DevM).alive with valve := ((({ m with number := number } : DevM).alive.valve.hold (decide (8 ≤ flags))).take data), sent := m.sent + 1 }, DevM.frame { ({ m with number := number } : DevM).alive with valve := ((({ m with number := number } : DevM).alive.valve.hold (decide (8 ≤ flags))).take data), sent := m.sent + 1 } 20 (m.sent + 1) (flagsM ((({ m with number := number } : DevM).alive.valve.hold (decide (8 ≤ flags))).take data) m.hold) m.value, 0) e w' := by
  have hI0 := hI
  obtain ⟨⟨κ, c, d, v, g, val, hH, hF⟩, hlo⟩ := hI
  have hfb := flag8 hfl.1 hfl.2
  have hp8 := hi.p8
  have hsn := hi.sent
  have hpos : 0 < data.length := by omega
  have hd8 : data.length ≤ 1000 := by omega
  have hwr : IntKind.u32.wrap (m.sent + 1) = m.sent + 1 := IntWalk.u32_in _ (by have := hi.number; omega)
  have H3 := Lib.hid h3
  have hki1 : ({ m with number := number } : DevM).Inv := { hi with number := by simp only; have := hi.number; omega, sent := by simp only; omega }
  have hki2 := hki1.alive
  obtain ⟨k5, Hk5⟩ : ∃ k, Hid (k = ({ ({ m with number := number } : DevM).alive with valve := ((({ m with number := number } : DevM).alive.valve.hold (decide (8 ≤ flags))).take data) } : DevM)) := ⟨_, Lib.hid rfl⟩
  have hki5 : ({ k5 with sent := m.sent + 1 } : DevM).Inv := by
    rw [Hk5.out]
    refine { hki2 with sent := ?_, vval := ?_, fr := fr_take (V := (DevM.alive _).valve.hold _) hki2.fr }
    · show 0 ≤ m.sent + 1 ∧ m.sent + 1 ≤ number
      omega
    · intro b hb
      simp only [ValveM.take] at hb
      split at hb
      · simp only [Option.some.injEq] at hb
        subst hb
        exact h3
      · exact hki2.vval b hb
  obtain ⟨of, Hof⟩ : ∃ of, Hid (of = DevM.frame { k5 with sent := m.sent + 1 } 20 (m.sent + 1) (flagsM k5.valve k5.hold) k5.value) := ⟨_, Lib.hid rfl⟩
  have hq : (({ ({ m with number := number } : DevM).alive with valve := ((({ m with number := number } : DevM).alive.valve.hold (decide (8 ≤ flags))).take data), sent := m.sent + 1 }, DevM.frame { ({ m with number := number } : DevM).alive with valve := ((({ m with number := number } : DevM).alive.valve.hold (decide (8 ≤ flags))).take data), sent := m.sent + 1 } 20 (m.sent + 1) (flagsM ((({ m with number := number } : DevM).alive.valve.hold (decide (8 ≤ flags))).take data) m.hold) m.value, 0) : DevM × List UInt8 × Int) = ({ k5 with sent := m.sent + 1 }, of, 0) := by
    rw [Hof.out, Hk5.out]
    rfl
  rw [hq]
  have hval5 : k5.value = m.value ∧ k5.sent = m.sent ∧ k5.p = m.p := by rw [Hk5.out]; exact ⟨rfl, rfl, rfl⟩
  have Hval5 := Lib.hid hval5
  clear hq hfl hp8 hsn h3 hval5
  have hb1 : Below w.heap.size w (w.alloc (.cells #[.int .i64 kind, .int .u32 code, .int .u32 session, .int .u32 number, .int .i64 flags, .slice A data.length cA] 64)) := (Below.refl _ _).alloc (Nat.le_refl _) _
  have hA1 := hH.below hb1
  have hI1 := hI0.below hb1
  have hU1 := Blk.new w 64 #[.int .i64 kind, .int .u32 code, .int .u32 session, .int .u32 number, .int .i64 flags, .slice A data.length cA]
  have huF : ∀ x, F x → x ≠ w.heap.size := fun x hx e => by have := (hlo x hx).2; omega
  obtain ⟨u, Hu⟩ : ∃ e, Hid (e = w.heap.size) := ⟨_, Lib.hid rfl⟩
  have hua : u ≠ a := by have := Hu.out; have := huF a hI0.Fa; omega
  have hs1 := hb1.size
  go_enter Tryz.func150, Tryz.ntmps150
  go_upto_region 1 with fail
  rw [← Hu.out] at hU1 huF ⊢
  generalize w.alloc (.cells #[.int .i64 kind, .int .u32 code, .int .u32 session, .int .u32 number, .int .i64 flags, .slice A data.length cA] 64) = W1 at *
  have hbA := hA1.blk
  have hc := hbA.cell
  have hf := hbA.frozen
  have huc := hU1.cell
  have hset : Blk (W1.setCell ⟨a, 13, none⟩ (.int .u32 number)) a 132 (devCells { m with number := number } mb c d v g val) := by simpa [devCells] using hbA.set_ 13 (.int .u32 number)
  have hA2 := hA1.upd (keepA W1) (by simp [World.setCell]) hset rfl rfl rfl rfl rfl rfl rfl
  have hk2 : Keep F w (W1.setCell ⟨a, 13, none⟩ (.int .u32 number)) := (Keep.of_below hb1).setCell (p := ⟨a, 13, none⟩) (fun _ => hI0.Fa) _
  have hI2 : DevIs B (W1.setCell ⟨a, 13, none⟩ (.int .u32 number)) a mb { m with number := number } F := DevIs.of hA2 hF (fun x hx => by have := hlo x hx; have := hk2.size; omega)
  have hU2 := hU1.far (p := ⟨a, 13, none⟩) hua (.int .u32 number)
  have hr2 := hr.keepS hk2 hB haf
  unfold devCells at hc
  go_wp2_with fail
  have hul := hU2.lt
  have hs2 := hk2.size
  generalize W1.setCell ⟨a, 13, none⟩ (.int .u32 number) = W2 at *
  have hgA : ∀ W', ∀ ad, A = some ad → ¬ grow F W2 W' ad.block := by
    intro W' ad e hx
    rcases hx with hx | hx
    · exact haf ad e hx
    · obtain ⟨ad', e', hb, _⟩ := hr.2 hpos
      rw [e] at e'
      injection e' with e'
      subst e'
      omega
  have hgu : ∀ W' x, grow F W2 W' x → x ≠ u := fun W' x hx e => hx.elim (fun hx => huF x hx e) (fun hx => by omega)
  clear hc hf huc hU1 hA1 hA2 hI1 hb1 hset hbA
  refine (devAlive_any B a mb { m with number := number } F W2 hI2).mono ?_
  rintro e W3 ⟨rfl, t3⟩
  have hU3 := (hU2.keep t3.keep (fun hx => huF _ hx rfl)).drew
  have hs3 := t3.keep.size
  have hr3 := hr2.keepS t3.keep (by omega) haf
  have T3 := t3.drew
  clear hU2 t3
  generalize hk3m : ({ m with number := number } : DevM).alive = k3 at *
  obtain ⟨⟨κ3, c3, d3, v3, g3, val3, h3, hF3⟩, hlo3⟩ := T3.is_
  have hbA := h3.blk
  have hc := hbA.cell
  unfold devCells at hc
  have huc := hU3.cell
  have hv3 := h3.valve
  have hc' : ∀ i, W3.cell? ⟨a, i, none⟩ = _ := hc
  have huc' : ∀ i, W3.cell? ⟨u, i, none⟩ = _ := huc
  clear hc huc
  go_wp2_with fail
  go_region_held3 (fun w' => w'.cell? ⟨a, 9, none⟩ = some (.pointer (some ⟨v3, 0, none⟩)) ∧ w'.cell? ⟨u, 4, none⟩ = some (.int .i64 flags)) (exact ⟨(hbA.cell 9).trans rfl, (hU3.cell 4).trans rfl⟩) (first
    | (go_at_call 190; refine (valveHold_any v3 _ _ (Of κ3 2) (decide (8 ≤ flags)) _ hv3).mono ?_; rintro e W4 ⟨rfl, hv4, hk4, hs4⟩; have t4 := h3.toValve T3.is_ hF3 hv4 hk4 (fun x hx => .inl hx); replace hU3 := hU3.keep t4.keep (fun hx => hgu _ _ hx rfl); replace hbA := (h3.onValve hv4 hk4 (fun x hx => .inl hx)).blk))
  have T4 := (DevTo.trans hI2 T3 t4).drew
  have hU4 := hU3.drew
  have hs4' : W3.heap.size ≤ W4.heap.size := hk4.size
  have hr4 := hr3.drew.keepS t4.keep (by show Br ≤ W3.heap.size; omega) (fun ad e => hgA _ ad e)
  clear hc' huc' hbA hs4 hv4 hk4 hv3 t4 hU3 T3 h3 hF3 hlo3
  obtain ⟨⟨κ4, c4, d4, v4, g4, val4, h4, hF4⟩, hlo4⟩ := T4.is_
  have hbA := h4.blk
  have hv4 := h4.valve
  have hr4d := hr4.drew
  have H3o := H3.out
  have hp3 : k3.p = m.p := by rw [← hk3m]; rfl
  have hc4' := hbA.cell
  unfold devCells at hc4'
  have hc4 : ∀ i, W4.cell? ⟨a, i, none⟩ = _ := hc4'
  have huc4 : ∀ i, W4.cell? ⟨u, i, none⟩ = _ := hU4.cell
  clear hc4'
  go_wp2_with fail
  go_region_held3 (fun w' => w'.cell? ⟨a, 9, none⟩ = some (.pointer (some ⟨v4, 0, none⟩)) ∧ w'.cell? ⟨u, 5, none⟩ = some (.slice A data.length cA)) (exact ⟨(hbA.cell 9).trans rfl, (hU4.cell 5).trans rfl⟩) (first
    | (go_at_call 191; refine (valveTake_any v4 _ _ (Of κ4 2) A cA Br data _ hv4 hr4d (by show Br ≤ W4.heap.size; omega) (by show k3.p.out = _; rw [hp3]; exact H3o.symm) hpos hd8).mono ?_; rintro e W5 ⟨rfl, hv5, hk5⟩; have t5 := h4.toValve T4.is_ hF4 hv5 hk5 (fun x hx => hx); replace hU4 := hU4.keep t5.keep (fun hx => hgu _ _ hx rfl); replace hbA := (h4.onValve hv5 hk5 (fun x hx => hx)).blk))
  have T5 := DevTo.trans hI2 T4 t5
  all_goals
    have hk5e : k5 = { k3 with valve := ((k3.valve.hold (decide (8 ≤ flags))).take data) } := Hk5.out
    replace T5 : DevTo B W2 a mb k5 F W5 := by rw [hk5e]; exact T5
    clear hbA hU4 t5 hv4 hr4d hr4 hc4 huc4 h4 hF4 hlo4 T4 hv5 hk5 hk5e
    obtain ⟨⟨κ5, c5, d5, v5, g5, val5, h5, hF5⟩, hlo5⟩ := T5.is_
    have hb5 := h5.blk
    have hc := hb5.cell
    have hf := hb5.frozen
    unfold devCells at hc
    rw [Hval5.out.2.1] at hc
    have hset : Blk (W5.setCell ⟨a, 14, none⟩ (.int .u32 (m.sent + 1))) a 132 (devCells { k5 with sent := m.sent + 1 } mb c5 d5 v5 g5 val5) := by simpa [devCells] using hb5.set_ 14 (.int .u32 (m.sent + 1))
    have T6 := (DevTo.trans hI2 T5 (h5.toUpd T5.is_ hF5 (keepA W5) (by simp [World.setCell]) hset rfl rfl rfl rfl rfl rfl rfl)).drew
    go_wp2_with fail
    generalize W5.setCell ⟨a, 14, none⟩ (.int .u32 (m.sent + 1)) = W6 at *
    clear hc hf hset hb5 h5 hF5 hlo5 T5
    obtain ⟨⟨κ6, c6, d6, v6, g6, val6, h6, hF6⟩, hlo6⟩ := T6.is_
    have hb6 := h6.blk
    have hown6 := h6.value
    simp only at hown6
    rw [Hval5.out.1] at hown6
    obtain ⟨A6, cap6, rfl⟩ := own_slice hown6
    have hlv : m.value.length ≤ 1000000 := by have := hi.value; have := hi.p8; omega
    have hcl := cloneByte_any A6 m.value.length cap6 m.value _ _ (fun e => reads_nn (Reads.of_own hown6) e) (Reads.of_own hown6) (Nat.le_refl _) hlv
    have hI6 := T6.is_
    have hal := hb6.lt
    have hs6 := T6.keep.size
    have hsn := hki5.sent
    simp only at hsn
    have hrep := fun W A c hI hr hB => devReply_any B a mb { k5 with sent := m.sent + 1 } (grow F W2 W6.drew) 20 (m.sent + 1) m.value A m.value.length c (W : World).heap.size W hI hki5 rfl (by have := hki5.number; simp only at this; omega) hr hB
    rw [if_pos rfl] at hrep
    have hof : DevM.frame { k5 with sent := m.sent + 1 } 20 (m.sent + 1) (flagsM ({ k5 with sent := m.sent + 1 } : DevM).valve ({ k5 with sent := m.sent + 1 } : DevM).hold) m.value = of := by rw [Hof.out, Hval5.out.1]
    rw [hof] at hrep
    go_region_held3 (fun w' => w'.cell? ⟨a, 14, none⟩ = some (.int .u32 (m.sent + 1)) ∧ w'.cell? ⟨a, 16, none⟩ = some (.slice A6 m.value.length cap6)) (exact ⟨(hb6.cell 14).trans rfl, (hb6.cell 16).trans rfl⟩) (first
      | (go_at_call 53; refine hcl.mono ?_; rintro e W7 ⟨x7, rfl, hown7, _, _, hb7⟩; obtain ⟨A7, c7, rfl⟩ := own_slice hown7; replace hb6 := hb6.below hb7 hal)
      | (go_at_call 186; refine (hrep _ _ _ (hI6.below hb7) (Reads.of_own hown7) (Nat.le_refl _)).mono ?_; rintro e W8 ⟨x8, rfl, hown8, hb8⟩; obtain ⟨A8, c8, rfl⟩ := own_slice hown8; replace hb6 := hb6.below hb8 (Nat.lt_of_lt_of_le hal hb7.size)))
    all_goals
      go_wp2_with fail
      have hb78 := hb7.trans (hb8.mono hb7.size)
      have hs7 := hb7.size
      refine bodyPost_ret (v := .tuple #[.slice A8 of.length c8, .int .i64 0]) (by simp [results, Tryz.results150, go_sem]) rfl ⟨_, rfl, own_base hown8 ?_, DevAp.of2 hI0 hk2 (DevAp.end_ hI2 T6 hb78 (own_base hown8 hs7))⟩
      have e6 : W6.drew.heap.size = W6.heap.size := rfl
      have := hk2.size
      omega
end Go.Proofs.YtlldgfejcjnpkaaGreat
