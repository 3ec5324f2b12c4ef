/- The base of the laws, part 19: contracts and plain lemmas, no statement. -/
import Derived.Test.YtlldgfejcjnpkaaGreatBase17
import Derived.Test.YtlldgfejcjnpkaaGreatBase18
set_option linter.unusedVariables false
/- The reference's device: busy, strange, none, offer. -/
namespace Go.Proofs.YtlldgfejcjnpkaaGreat
open Go.RowKit
set_option maxHeartbeats 10000000
set_option maxRecDepth 100000

theorem rdBusy_any (b mb cb : Nat) (m : DevM) (lg vv val : Value) (w : World) (hb : Blk w b 95 (rdCells m mb cb lg vv val)) :
    Calls Tryz.prog 154 #[.pointer (some ⟨b, 0, none⟩)] w fun e w' => e = .returned (.bool m.busy) ∧ w' = w := by
  have hc := hb.cell
  unfold rdCells at hc
  obtain ⟨q, Hq⟩ : ∃ q, Hid (q = m.busy) := ⟨_, Lib.hid rfl⟩
  rw [← Hq.out]
  have Hq2 : Hid (q = decide (m.state = 2 ∨ m.state = 3 ∨ m.state = 4)) := Lib.hid Hq.out
  clear Hq
  by_cases h2 : m.state = 2
  · have e : q = true := by rw [Hq2.out]; simp [h2]
    subst e
    rw [h2] at hc
    go_enter Tryz.func154, Tryz.ntmps154
    go_wp2_with fail
    go_ret
    exact ⟨rfl, rfl⟩
  by_cases h3 : m.state = 3
  · have e : q = true := by rw [Hq2.out]; simp [h3]
    subst e
    rw [h3] at hc
    go_enter Tryz.func154, Tryz.ntmps154
    go_wp2_with fail
    go_ret
    exact ⟨rfl, rfl⟩
  by_cases h4 : m.state = 4
  · have e : q = true := by rw [Hq2.out]; simp [h4]
    subst e
    rw [h4] at hc
    go_enter Tryz.func154, Tryz.ntmps154
    go_wp2_with fail
    go_ret
    exact ⟨rfl, rfl⟩
  have e : q = false := by rw [Hq2.out]; simp [h2, h3, h4]
  subst e
  have g2 : (m.state == 2) = false := by simpa using h2
  have g3 : (m.state == 3) = false := by simpa using h3
  have g4 : (m.state == 4) = false := by simpa using h4
  go_enter Tryz.func154, Tryz.ntmps154
  go_wp2_with fail
  go_ret
  exact ⟨rfl, rfl⟩
theorem rdStrange_any (B b mb : Nat) (m : DevM) (F : Nat → Prop) (w : World) (hI : RDIs B w b mb m F) (hi : m.Inv) (hlen : m.log.length < 1073741823) :
    Calls Tryz.prog 108 #[.pointer (some ⟨b, 0, none⟩)] w fun e w' => e = .returned (.bool m.strange.2) ∧ RDTo B w b mb m.strange.1 F w' := by
  have hI0 := hI
  obtain ⟨⟨κ, A, c, vv, val, cb, hH, hF⟩, hlo⟩ := hI
  have hb := hH.blk
  have hc := hb.cell
  have hf := hb.frozen
  unfold rdCells at hc
  have hod := hi.odd
  have hbz := rdBusy_any b mb cb m _ vv val w hb
  cases hbu : m.busy with
  | false =>
    have e1 : m.strange = (m, false) := by unfold DevM.strange; simp [hbu]
    rw [e1]
    rw [hbu] at hbz
    clear e1 hbu
    go_enter Tryz.func108, Tryz.ntmps108
    go_wp2_with fail
    refine hbz.mono ?_
    rintro e w1 ⟨rfl, rfl⟩
    go_wp2_with fail
    go_ret
    exact ⟨rfl, RDTo.refl hI0⟩
  | true =>
    have hwr : IntKind.i64.wrap (m.odd + 1) = m.odd + 1 := IntWalk.i64_in _ (by omega)
    have hset : Blk (w.setCell ⟨b, 22, none⟩ (.int .i64 (m.odd + 1))) b 95 (rdCells { m with odd := m.odd + 1 } mb cb (.slice A m.log.length c) vv val) := by simpa [rdCells] using hb.set_ 22 (.int .i64 (m.odd + 1))
    have tA := hH.toOwn hI0 hF (hH.upd (m' := { m with odd := m.odd + 1 }) (keepB (Keep.refl _ w)) (by simp [World.setCell]) hset rfl rfl rfl rfl rfl) (keepB (Keep.refl _ w))
    by_cases h4 : m.odd + 1 < 4
    · have e1 : m.strange = ({ m with odd := m.odd + 1 }, false) := by unfold DevM.strange; simp only [hbu, Bool.not_true, Bool.false_eq_true, if_false]; rw [if_pos h4]
      rw [e1]
      rw [hbu] at hbz
      clear e1 hbu
      go_enter Tryz.func108, Tryz.ntmps108
      go_wp2_with fail
      refine hbz.mono ?_
      rintro e w1 ⟨rfl, rfl⟩
      go_wp2_with fail
      go_ret
      exact ⟨rfl, tA⟩
    · have Hq : Hid (m.strange = ((if m.state = 4 then ({ m with odd := m.odd + 1 } : DevM).trip 131 else { m with odd := m.odd + 1 }).leave 1, true)) := Lib.hid (by unfold DevM.strange; simp only [hbu, Bool.not_true, Bool.false_eq_true, if_false]; rw [if_neg h4])
      rw [hbu] at hbz
      clear hbu
      by_cases hs : m.state = 4
      · rw [Hq.out, if_pos hs]
        rw [hs] at hc
        clear Hq
        go_enter Tryz.func108, Tryz.ntmps108
        go_wp2_with fail
        refine hbz.mono ?_
        rintro e w1 ⟨rfl, rfl⟩
        go_wp2_with fail
        refine (rdLatch_any B b mb { m with odd := m.odd + 1 } _ 131 _ (by decide) tA.is_ hlen).mono ?_
        rintro e w2 ⟨rfl, t2⟩
        have t12 := RDTo.trans hI0 tA t2
        go_wp2_with fail
        refine (rdLeave_any B b mb (({ m with odd := m.odd + 1 } : DevM).trip 131) _ 1 _ t12.is_).mono ?_
        rintro e w3 ⟨rfl, t3⟩
        go_wp2_with fail
        go_ret
        exact ⟨rfl, RDTo.trans hI0 t12 t3⟩
      · rw [Hq.out, if_neg hs]
        have g4 : (m.state == 4) = false := by simpa using hs
        clear Hq
        go_enter Tryz.func108, Tryz.ntmps108
        go_wp2_with fail
        refine hbz.mono ?_
        rintro e w1 ⟨rfl, rfl⟩
        go_wp2_with fail
        refine (rdLeave_any B b mb { m with odd := m.odd + 1 } _ 1 _ tA.is_).mono ?_
        rintro e w2 ⟨rfl, t2⟩
        go_wp2_with fail
        go_ret
        exact ⟨rfl, RDTo.trans hI0 tA t2⟩
theorem rdNone_any (B b mb : Nat) (m : DevM) (F : Nat → Prop) (w : World) (hI : RDIs B w b mb m F) (hi : m.Inv) :
    Calls Tryz.prog 109 #[.pointer (some ⟨b, 0, none⟩)] w fun e w' => ∃ v, e = .returned v ∧ w'.ownsRow w.heap.size 5 1 v m.none.length (u8c m.none) ∧ Below w.heap.size w w' := by
  have h := rdAnswer_any B b mb m F 22 0 0 [] none 0 0 0 w hI hi rfl (by omega) Reads.none_ (Nat.zero_le _)
  rw [show m.frame 22 0 0 [] = m.none from rfl] at h
  generalize m.none = fr at *
  go_enter Tryz.func109, Tryz.ntmps109
  go_wp2_with fail
  refine h.mono ?_
  rintro e w1 ⟨v, rfl, hown, hb1⟩
  obtain ⟨Av, cv, rfl⟩ := own_slice hown
  go_wp2_with fail
  go_ret
  exact ⟨_, rfl, hown, hb1⟩
theorem rdOffer_any (B b mb : Nat) (m : DevM) (F : Nat → Prop) (w : World) (hI : RDIs B w b mb m F) (hi : m.Inv) :
    Calls Tryz.prog 155 #[.pointer (some ⟨b, 0, none⟩)] w fun e w' => ∃ v, e = .returned v ∧ w'.ownsRow w.heap.size 5 1 v m.offer.length (u8c m.offer) ∧ Below w.heap.size w w' := by
  have hI0 := hI
  obtain ⟨⟨κ, A, c, vv, val, cb, hH, hF⟩, hlo⟩ := hI
  have hc := hH.blk.cell
  unfold rdCells at hc
  have hsg := fun W => r9sign_any m.p W hi.pok hi.plaw
  unfold parVal at hsg
  obtain ⟨of, Hof⟩ : ∃ of, Hid (of = m.offer) := ⟨_, Lib.hid rfl⟩
  rw [← Hof.out]
  go_enter Tryz.func155, Tryz.ntmps155
  go_wp2_with fail
  refine (hsg _).mono ?_
  rintro e W1 ⟨v1, rfl, hown1, hb1⟩
  obtain ⟨A1, c1, rfl⟩ := own_slice hown1
  have hs1 := hb1.size
  have hrep := rdAnswer_any B b mb m F 17 0 0 m.p.sign A1 4 c1 W1.heap.size W1 (hI0.below hb1) hi (sign_length _) (by omega) (Reads.of_own hown1) (Nat.le_refl _)
  rw [show m.frame 17 0 0 m.p.sign = of from Hof.out.symm] at hrep
  go_wp2_with fail
  refine hrep.mono ?_
  rintro e W3 ⟨x3, rfl, hown3, hb3⟩
  obtain ⟨A3, c3, rfl⟩ := own_slice hown3
  go_wp2_with fail
  go_ret
  exact ⟨_, rfl, own_base hown3 hs1, hb1.trans (hb3.mono hs1)⟩
/-- What a call leaves of a device, apart from what it answers. -/
structure RDAp (B : Nat) (w : World) (b mb : Nat) (m : DevM) (F : Nat → Prop) (x : Value) (w' : World) : Prop where
  too : RDTo B w b mb m F w'
  ap : ∃ F' : Nat → Prop, RDIs B w' b mb m F' ∧ (∀ y, F' y → grow F w w' y) ∧ ∀ y, x.ownBlock = some y → ¬ F' y
/-- What a call that answers a frame leaves. -/
def RDAns (B : Nat) (w : World) (b mb : Nat) (F : Nat → Prop) (r : DevM × List UInt8 × Int) (e : Ending) (w' : World) : Prop :=
  ∃ x, e = .returned (.tuple #[x, .int .i64 r.2.2]) ∧ w'.ownsRow w.heap.size 5 1 x r.2.1.length (u8c r.2.1) ∧ RDAp B w b mb r.1 F x w'
section
variable {B : Nat} {w w1 w2 : World} {b mb n : Nat} {m m1 m2 : DevM} {F : Nat → Prop} {x : Value} {xs : List Value}
theorem RDAp.end_ (h0 : RDIs B w b mb m F) (t : RDTo B w b mb m1 F w1) (hb : Below w1.heap.size w1 w2) (hx : w2.ownsRow w1.heap.size 5 1 x n xs) : RDAp B w b mb m1 F x w2 := by
  have hs := t.keep.size
  have hs2 := hb.size
  refine ⟨RDTo.below h0 t hb, grow F w w1, t.is_.below hb, fun y hy => hy.imp id (fun h => ⟨h.1, by omega⟩), fun y hy hF => ?_⟩
  have := (hx.lt y hy).1
  rcases hF with hF | hF
  · have := (h0.lo y hF).2; omega
  · omega
theorem RDAp.nil_ {c n : Nat} (t : RDTo B w b mb m1 F w1) : RDAp B w b mb m1 F (.slice none n c) w1 :=
  ⟨t, grow F w w1, t.is_, fun _ h => h, fun y hy => by simp [Value.ownBlock] at hy⟩
theorem RDAp.trans (h0 : RDIs B w b mb m F) (t : RDTo B w b mb m1 F w1) (h : RDAp B w1 b mb m2 (grow F w w1) x w2) : RDAp B w b mb m2 F x w2 := by
  obtain ⟨F', h1, h2, h3⟩ := h.ap
  exact ⟨RDTo.trans h0 t h.too, F', h1, fun y hy => grow_grow t.keep.size h.too.keep.size y (h2 y hy), h3⟩
theorem RDAns.of {r : DevM × List UInt8 × Int} {e : Ending} {w' : World} (hI : RDIs B w b mb m F) (t : RDTo B w b mb m1 F w1) (h : RDAns B w1 b mb (grow F w w1) r e w') : RDAns B w b mb F r e w' := by
  obtain ⟨x, he, ho, t2⟩ := h
  exact ⟨x, he, own_base ho t.keep.size, RDAp.trans hI t t2⟩
theorem RDAp.afterBelow (hI : RDIs B w b mb m F) (hb : Below w.heap.size w w1) (h : RDAp B w1 b mb m2 F x w2) : RDAp B w b mb m2 F x w2 := by
  obtain ⟨F', h1, h2, h3⟩ := h.ap
  have hs := hb.size
  exact ⟨RDTo.afterBelow hI hb h.too, F', h1, fun y hy => (h2 y hy).imp id (fun h => ⟨by omega, h.2⟩), h3⟩
theorem RDAns.afterBelow {r : DevM × List UInt8 × Int} {e : Ending} {w' : World} (hI : RDIs B w b mb m F) (hb : Below w.heap.size w w1) (h : RDAns B w1 b mb F r e w') : RDAns B w b mb F r e w' := by
  obtain ⟨x, he, ho, t2⟩ := h
  exact ⟨x, he, own_base ho hb.size, RDAp.afterBelow hI hb t2⟩
end
end Go.Proofs.YtlldgfejcjnpkaaGreat
/- The reference's device: Write, Tick, Ack, See. -/
namespace Go.Proofs.YtlldgfejcjnpkaaGreat
open Go.RowKit
set_option maxHeartbeats 10000000
set_option maxRecDepth 100000

theorem rdTick_any (B b mb : Nat) (m : DevM) (F : Nat → Prop) (n : Int) (w : World) (hI : RDIs B w b mb m F) (hi : m.Inv) (hlen : m.log.length < 1073741800) :
    Calls Tryz.prog 34 #[.pointer (some ⟨b, 0, none⟩), .int .i64 n] w fun e w' => e = .returned (.int .i64 (m.tick n).2) ∧ RDTo B w b mb (m.tick n).1 F w' := by
  have hI0 := hI
  obtain ⟨⟨κ, A, c, vv, val, cb, hH, hF⟩, hlo⟩ := hI
  have hc := hH.blk.cell
  unfold rdCells at hc
  by_cases h6 : m.state = 6
  · have e1 : m.tick n = (m, 70) := by unfold DevM.tick; rw [if_pos h6]
    rw [e1]
    rw [h6] at hc
    clear e1
    go_enter Tryz.func34, Tryz.ntmps34
    go_wp2_with fail
    go_ret
    exact ⟨rfl, RDTo.refl hI0⟩
  have g6 : (m.state == 6) = false := by simpa using h6
  by_cases hn : n < 0
  · have e1 : m.tick n = (m, 2) := by unfold DevM.tick; rw [if_neg h6, if_pos hn]
    rw [e1]
    clear e1
    go_enter Tryz.func34, Tryz.ntmps34
    go_wp2_with fail
    go_ret
    exact ⟨rfl, RDTo.refl hI0⟩
  · have hp8 := hi.p8
    have htk := rdogTicks_any b 9 _ _ _ m.p.watch m.since n w hH.dogBlk rfl hi.since.1 hi.since.2 (by omega) (by omega)
    cases hr : (ticksM m.p.watch m.since n).2 with
    | false =>
      have e1 : m.tick n = ({ m with since := (ticksM m.p.watch m.since n).1 }, 0) := by unfold DevM.tick; rw [if_neg h6, if_neg hn]; simp only [hr]; rfl
      rw [e1]
      rw [hr] at htk
      clear e1 hp8
      go_enter Tryz.func34, Tryz.ntmps34
      go_wp2_with fail
      refine htk.mono ?_
      rintro e w1 ⟨rfl, hd1, hk1, hs1⟩
      have h1 : RDAt B w1 b mb { m with since := (ticksM m.p.watch m.since n).1 } κ A c vv val cb := hH.upd hk1 hs1 hd1 rfl rfl rfl rfl rfl
      clear hs1
      go_wp2_with fail
      go_ret
      exact ⟨rfl, hH.toOwn hI0 hF h1 hk1⟩
    | true =>
      have e1 : m.tick n = (({ m with since := (ticksM m.p.watch m.since n).1 } : DevM).trip 100, 0) := by unfold DevM.tick; rw [if_neg h6, if_neg hn]; simp only [hr]; rfl
      rw [e1]
      rw [hr] at htk
      clear e1 hp8
      go_enter Tryz.func34, Tryz.ntmps34
      go_wp2_with fail
      refine htk.mono ?_
      rintro e w1 ⟨rfl, hd1, hk1, hs1⟩
      have h1 : RDAt B w1 b mb { m with since := (ticksM m.p.watch m.since n).1 } κ A c vv val cb := hH.upd hk1 hs1 hd1 rfl rfl rfl rfl rfl
      have t1 := hH.toOwn hI0 hF h1 hk1
      clear hs1
      go_wp2_with fail
      refine (rdLatch_any B b mb { m with since := (ticksM m.p.watch m.since n).1 } _ 100 w1 (by decide) t1.is_ (by simp only; omega)).mono ?_
      rintro e w2 ⟨rfl, t2⟩
      go_wp2_with fail
      go_ret
      exact ⟨rfl, RDTo.trans hI0 t1 t2⟩
theorem rdAck_any (B b mb : Nat) (m : DevM) (F : Nat → Prop) (w : World) (hI : RDIs B w b mb m F) :
    Calls Tryz.prog 66 #[.pointer (some ⟨b, 0, none⟩)] w fun e w' => e = .returned (.int .i64 m.ack.2) ∧ RDTo B w b mb m.ack.1 F w' := by
  have hI0 := hI
  obtain ⟨⟨κ, A, c, vv, val, cb, hH, hF⟩, hlo⟩ := hI
  have hc := hH.blk.cell
  unfold rdCells at hc
  by_cases h6 : m.state = 6
  · have e1 : m.ack = (m, 70) := by unfold DevM.ack; rw [if_pos h6]
    rw [e1]
    rw [h6] at hc
    clear e1
    go_enter Tryz.func66, Tryz.ntmps66
    go_wp2_with fail
    go_ret
    exact ⟨rfl, RDTo.refl hI0⟩
  have g6 : (m.state == 6) = false := by simpa using h6
  have e1 : m.ack = ({ m with valve := m.valve.ack }, if m.valve.request then 0 else 110) := by
    unfold DevM.ack ValveM.ack
    rw [if_neg h6]
    cases m.valve.request <;> rfl
  rw [e1]
  have hack := rvAck_any b 11 _ _ _ m.p.out m.valve vv w hH.valveBlk rfl
  clear e1
  cases hr : m.valve.request with
  | false =>
    rw [hr] at hack
    go_enter Tryz.func66, Tryz.ntmps66
    go_wp2_with fail
    refine hack.mono ?_
    rintro e w1 ⟨rfl, hv⟩
    have h1 := hH.onValve hv (.inl ⟨rfl, ack_val _⟩)
    go_wp2_with fail
    go_ret
    exact ⟨rfl, hH.toOwn hI0 hF h1 hv.2.1⟩
  | true =>
    rw [hr] at hack
    go_enter Tryz.func66, Tryz.ntmps66
    go_wp2_with fail
    refine hack.mono ?_
    rintro e w1 ⟨rfl, hv⟩
    have h1 := hH.onValve hv (.inl ⟨rfl, ack_val _⟩)
    go_wp2_with fail
    go_ret
    exact ⟨rfl, hH.toOwn hI0 hF h1 hv.2.1⟩
theorem rdWrite_any (B b mb : Nat) (m : DevM) (F : Nat → Prop) (A : Option Addr) (n c Br : Nat) (l : List UInt8) (hold : Bool) (w : World) (hI : RDIs B w b mb m F) (hr : Reads w Br 1 A n (u8c l)) (hB : Br ≤ w.heap.size) (hi : m.Inv) :
    Calls Tryz.prog 17 #[.pointer (some ⟨b, 0, none⟩), .slice A n c, .bool hold] w fun e w' => e = .returned (.int .i64 (m.write l hold).2) ∧ RDTo B w b mb (m.write l hold).1 F w' := by
  have hI0 := hI
  obtain ⟨⟨κ, Al, cl, vv, val, cb, hH, hF⟩, hlo⟩ := hI
  obtain ⟨i0, hi0, hz0, hz1, hz2⟩ := info_parts byte_info
  have hb := hH.blk
  have hc := hb.cell
  unfold rdCells at hc
  have hl : l.length = n := by have := hr.1; simpa [u8c] using this
  by_cases h6 : m.state = 6
  · have e1 : m.write l hold = (m, 70) := by unfold DevM.write; rw [if_pos h6]
    rw [e1]
    rw [h6] at hc
    clear e1
    go_enter Tryz.func17, Tryz.ntmps17
    go_wp2_with fail
    go_ret
    exact ⟨rfl, RDTo.refl hI0⟩
  have g6 : (m.state == 6) = false := by simpa using h6
  by_cases he : (n : Int) = m.p.inn
  · have e1 : m.write l hold = ({ m with value := l, hold := hold }, 0) := by unfold DevM.write; rw [hl, if_neg h6, if_neg (by simpa using he)]
    rw [e1]
    have g1 : ((n : Int) != m.p.inn) = false := by simpa using he
    have hn : n ≤ 1000000 := by have := hi.p8; omega
    have Hl := Lib.hid hl
    clear e1 hl he
    go_enter Tryz.func17, Tryz.ntmps17
    go_wp2_with (at_builtin; refine wpList_append_any _ rfl (.tmp 21) (.tmp 22) _ rfl w.heap.size 5 i0 _ 1 1 Tryz.underlying22 hi0 hz0 hz1 hz2 rfl (by omega) (.slice (some ⟨w.heap.size, 0, none⟩) 0 0) 0 [] rfl (World.ownsRow_made w #[] 0 (Nat.le_refl _) (by unfold maxLen; omega) rfl) Br A n c (u8c l) rfl (hr.alloc hB _) (u8c_one l) (by unfold maxLen; omega) (by omega) (by simp) ?_; intro v1 w1 hown1 hg1 hat1; rw [Nat.zero_add, List.nil_append] at hown1; obtain ⟨A1, c1, rfl⟩ := own_slice hown1; have hb1 : Below w.heap.size w w1 := ((Below.refl _ _).alloc (Nat.le_refl _) _).grown hg1 (by simp) (fun k hk => by simp [Value.ownBlock] at hk; omega); have h1 := hH.below hb1; have hbk := h1.blk; have hc1 := hbk.cell; have hf1 := hbk.frozen; unfold rdCells at hc1)
    go_ret
    have hlt1 := hown1.lt
    have hk : Keep (fun x => x = b) w1 ((w1.setCell ⟨b, 23, none⟩ (.slice A1 n c1)).setCell ⟨b, 24, none⟩ (.bool hold)) := keepB (keepB (Keep.refl _ w1))
    have hz : ((w1.setCell ⟨b, 23, none⟩ (.slice A1 n c1)).setCell ⟨b, 24, none⟩ (.bool hold)).heap.size = w1.heap.size := by simp [World.setCell]
    have hbl := (hH.inF hH.kb).2
    have hs1 := hb1.size
    obtain ⟨p1, p2, p3, p4, p5⟩ := h1.parts hk
    have h4 : RDAt B ((w1.setCell ⟨b, 23, none⟩ (.slice A1 n c1)).setCell ⟨b, 24, none⟩ (.bool hold)) b mb { m with value := l, hold := hold } (paint κ 3 w ((w1.setCell ⟨b, 23, none⟩ (.slice A1 n c1)).setCell ⟨b, 24, none⟩ (.bool hold))) Al cl vv (.slice A1 n c1) cb := {
      blk := by simpa [rdCells] using (hbk.set_ 23 (.slice A1 n c1)).set_ 24 (.bool hold)
      log := p1
      vval := p2
      value := by
        simp only
        rw [Hl.out]
        exact own_base (ownsRow_keep hown1 hk (fun x hx e => by have := (hlt1 x hx).1; omega)) (Nat.zero_le _)
      mem := p4.keep (S := fun _ => False) (Keep.refl _ _) (fun _ _ h => h) (fun x hx => paint_old hx hH.lo)
      cell := p5
      kb := paint_old hH.kb hH.lo
      kl := fun x hx => paint_old (hH.kl x hx) hH.lo
      kv := fun x hx => paint_old (hH.kv x hx) hH.lo
      kx := fun x hx => paint_new (hlt1 x hx).1 (by rw [hz]; exact (hlt1 x hx).2)
      kc := paint_old hH.kc hH.lo
      lo := paint_lo hH.lo hH.Ble (by rw [hz]; exact hs1) }
    exact ⟨rfl, h4.toIs hI0 (paint_sub hF) ((Keep.of_below hb1).andThen hk (fun x _ e => e ▸ hI0.Fb))⟩
  · have e1 : m.write l hold = (m, 45) := by unfold DevM.write; rw [hl, if_neg h6, if_pos he]
    rw [e1]
    have g1 : ((n : Int) != m.p.inn) = true := by simpa using he
    clear e1
    go_enter Tryz.func17, Tryz.ntmps17
    go_wp2_with fail
    go_ret
    exact ⟨rfl, RDTo.refl hI0⟩
theorem rdS6 {w : World} {b mb cb : Nat} {m : DevM} {lg vv val : Value} (h : Blk w b 95 (rdCells m mb cb lg vv val)) :
    w.cell? ⟨b, 18, none⟩ = some (.int .i64 m.state) ∧ w.cell? ⟨b, 19, none⟩ = some (.int .u32 m.session) ∧ w.cell? ⟨b, 20, none⟩ = some (.int .u32 m.number) ∧ w.cell? ⟨b, 21, none⟩ = some (.int .u32 m.sent) ∧ w.cell? ⟨b, 10, none⟩ = some (.int .i64 m.since) ∧ w.cell? ⟨b, 15, none⟩ = some (.int .i64 m.valve.latched) :=
  ⟨(h.cell 18).trans rfl, (h.cell 19).trans rfl, (h.cell 20).trans rfl, (h.cell 21).trans rfl, (h.cell 10).trans rfl, (h.cell 15).trans rfl⟩
theorem routput_length {V : ValveM} {N : Nat} (h : ∀ l, V.value = some l → l.length = N) : (V.output N).length = N := by
  unfold ValveM.output
  split
  · rename_i hon
    cases hv : V.value with
    | none => simp [ValveM.on, hv] at hon
    | some l => simpa using h l hv
  · simp
theorem rdSee_any (B b mb : Nat) (m : DevM) (F : Nat → Prop) (w : World) (hI : RDIs B w b mb m F) (hi : m.Inv) :
    Calls Tryz.prog 88 #[.pointer (some ⟨b, 0, none⟩)] w fun e w' => ∃ x, e = .returned (endVal m.see x) ∧ w'.ownsRow w.heap.size 5 1 x m.see.out.length (u8c m.see.out) ∧ Below w.heap.size w w' := by
  obtain ⟨⟨κ, A, c, vv, val, cb, hH, hF⟩, hlo⟩ := hI
  have hlaw := hi.p8
  obtain ⟨N, hN⟩ : ∃ N : Nat, m.p.out = (N : Int) := ⟨m.p.out.toNat, by omega⟩
  have hN8 : N ≤ 8 := by omega
  have hvv : ∀ l, m.valve.value = some l → l.length = N := fun l hl => by have := hi.vval l hl; omega
  have Hlen := Lib.hid (routput_length hvv)
  obtain ⟨sm, Hsm⟩ : ∃ s, Hid (s = m.see) := ⟨_, Lib.hid rfl⟩
  rw [← Hsm.out]
  have HN := Lib.hid hN
  clear hlaw hN
  have h1 := hH.below ((Below.refl w.heap.size w).alloc (Nat.le_refl _) (.cells #[.int .i64 0, .int .u32 0, .int .u32 0, .int .u32 0, .int .i64 0, .int .i64 0, .bool false, .bool false, .slice none 0 0] 57))
  have hE := Blk.new w 57 #[.int .i64 0, .int .u32 0, .int .u32 0, .int .u32 0, .int .i64 0, .int .i64 0, .bool false, .bool false, .slice none 0 0]
  have hbE : Below w.heap.size w (w.alloc (.cells #[.int .i64 0, .int .u32 0, .int .u32 0, .int .u32 0, .int .i64 0, .int .i64 0, .bool false, .bool false, .slice none 0 0] 57)) := (Below.refl _ _).alloc (Nat.le_refl _) _
  have hea : w.heap.size ≠ b := by have := (hH.inF hH.kb).2; omega
  have hvb := h1.valveBlk
  rw [HN.out] at hvb
  go_enter Tryz.func88, Tryz.ntmps88
  go_wp2_with fail
  obtain ⟨e0, He0⟩ : ∃ e, Hid (e = w.heap.size) := ⟨_, Lib.hid rfl⟩
  rw [← He0.out] at hE hea ⊢
  generalize w.alloc (.cells _ 57) = W0 at *
  refine (rvOutput_any b 11 _ _ _ m.valve vv W0 N hvb rfl h1.vval hN8 hvv).mono ?_
  rintro e W1 ⟨x, rfl, hown, hb1⟩
  have h2 := h1.below hb1
  have hE2 := hE.below hb1 hE.lt
  have hbE2 := hbE.trans (hb1.mono hbE.size)
  have hs0 := hbE.size
  obtain ⟨Ax, cx, rfl⟩ := own_slice hown
  have hb := h2.blk.drew
  have hv := h2.drew.valveBlk
  have hel0 := hE.lt
  clear h1 hE hbE hvb
  have huc := hE2.cell
  have huf := hE2.frozen
  have hc := h2.blk.cell
  unfold rdCells at hc
  go_wp2_with fail
  go_region_held3 (fun w' => w'.cell? ⟨b, 18, none⟩ = some (.int .i64 m.state) ∧ w'.cell? ⟨b, 19, none⟩ = some (.int .u32 m.session) ∧ w'.cell? ⟨b, 20, none⟩ = some (.int .u32 m.number) ∧ w'.cell? ⟨b, 21, none⟩ = some (.int .u32 m.sent) ∧ w'.cell? ⟨b, 10, none⟩ = some (.int .i64 m.since) ∧ w'.cell? ⟨b, 15, none⟩ = some (.int .i64 m.valve.latched)) (with_reducible (first | exact rdS6 hb | exact rdS6 (hb.far9 hea) | exact rdS6 (h2.blk.far9 hea).drew)) (first
    | (go_at_call 139; refine (rvRequest_any b 11 _ _ _ m.p.out m.valve vv _ hv rfl).mono ?_; rintro e W2 ⟨rfl, rfl⟩))
  have hel := hE2.lt
  have hlt := hown.lt
  have hfar : ∀ y, (Value.slice Ax N cx).ownBlock = some y → ¬ y = e0 := fun y hy e => by have := (hlt y hy).1; omega
  have hE3 := (hE2.store9 (a0 := (.int .i64 m.state)) (a1 := (.int .u32 m.session)) (a2 := (.int .u32 m.number)) (a3 := (.int .u32 m.sent)) (a4 := (.int .i64 m.since)) (a5 := (.int .i64 m.valve.latched)) (a6 := (.bool m.valve.request)) (a7 := (.bool m.valve.on)) (a8 := (.slice Ax N cx))).drew
  have hb3 : Below w.heap.size w (((((((((W1.setCell ⟨e0, 0, none⟩ (.int .i64 m.state)).setCell ⟨e0, 1, none⟩ (.int .u32 m.session)).setCell ⟨e0, 2, none⟩ (.int .u32 m.number)).setCell ⟨e0, 3, none⟩ (.int .u32 m.sent)).setCell ⟨e0, 4, none⟩ (.int .i64 m.since)).setCell ⟨e0, 5, none⟩ (.int .i64 m.valve.latched)).setCell ⟨e0, 6, none⟩ (.bool m.valve.request)).setCell ⟨e0, 7, none⟩ (.bool m.valve.on)).setCell ⟨e0, 8, none⟩ (.slice Ax N cx)).drew := (below9 hbE2 (by have := He0.out; omega)).drew
  have hown3 := ownsRow_keep (S := fun x => x = e0) hown ((((((((((Keep.refl (fun x => x = e0) W1).setCell (p := ⟨e0, 0, none⟩) (fun _ => rfl) (.int .i64 m.state)).setCell (p := ⟨e0, 1, none⟩) (fun _ => rfl) (.int .u32 m.session)).setCell (p := ⟨e0, 2, none⟩) (fun _ => rfl) (.int .u32 m.number)).setCell (p := ⟨e0, 3, none⟩) (fun _ => rfl) (.int .u32 m.sent)).setCell (p := ⟨e0, 4, none⟩) (fun _ => rfl) (.int .i64 m.since)).setCell (p := ⟨e0, 5, none⟩) (fun _ => rfl) (.int .i64 m.valve.latched)).setCell (p := ⟨e0, 6, none⟩) (fun _ => rfl) (.bool m.valve.request)).setCell (p := ⟨e0, 7, none⟩) (fun _ => rfl) (.bool m.valve.on)).setCell (p := ⟨e0, 8, none⟩) (fun _ => rfl) (.slice Ax N cx)).drew hfar
  generalize (((((((((W1.setCell ⟨e0, 0, none⟩ (.int .i64 m.state)).setCell ⟨e0, 1, none⟩ (.int .u32 m.session)).setCell ⟨e0, 2, none⟩ (.int .u32 m.number)).setCell ⟨e0, 3, none⟩ (.int .u32 m.sent)).setCell ⟨e0, 4, none⟩ (.int .i64 m.since)).setCell ⟨e0, 5, none⟩ (.int .i64 m.valve.latched)).setCell ⟨e0, 6, none⟩ (.bool m.valve.request)).setCell ⟨e0, 7, none⟩ (.bool m.valve.on)).setCell ⟨e0, 8, none⟩ (.slice Ax N cx)).drew = W3 at *
  clear huc huf hc
  have huc := hE3.cell
  go_wp2_with fail
  have e1 : sm = m.see := Hsm.out
  have e2 : m.see.out = m.valve.output (N : Int) := by unfold DevM.see; rw [HN.out]
  subst e1
  refine bodyPost_ret (v := endVal m.see (.slice Ax N cx)) (by simp [results, Tryz.results88, go_sem, endVal, DevM.see, huc]) rfl ⟨_, rfl, ?_, hb3⟩
  rw [e2, Hlen.out]
  exact own_base hown3 hs0
end Go.Proofs.YtlldgfejcjnpkaaGreat
/- The reference's device: a new life; New; Reset. -/
namespace Go.Proofs.YtlldgfejcjnpkaaGreat
open Go.RowKit
set_option maxHeartbeats 10000000
set_option maxRecDepth 100000

/-- A device of the reference's whose life is still to be laid. -/
structure RDPre (B : Nat) (w : World) (b mb : Nat) (p : ParM) (mx : Int) (L : List Rec) (A : Option Addr) (c : Nat) (M : MemM) (C : CellM) (κ : Nat → Option Nat) (cb : Nat) (x9 x10 x11 x12 x13 x14 x15 x16 x17 x18 x19 x20 x21 x22 x23 x24 : Value) : Prop where
  blk : Blk w b 95 #[.int .u32 p.code, .int .i64 p.out, .int .i64 p.inn, .int .i64 p.watch, .int .u32 p.count, .pointer (some ⟨mb, 0, none⟩), .int .u32 mx, .pointer (some ⟨cb, 0, none⟩), .slice A L.length c, x9, x10, x11, x12, x13, x14, x15, x16, x17, x18, x19, x20, x21, x22, x23, x24]
  log : w.ownsRow 0 202 4 (.slice A L.length c) L.length (recsCells L)
  mem : RMemIs w mb M (Of κ 5)
  cell : RCellIs w cb mb C
  kb : Of κ 0 b
  kl : ∀ x, (Value.slice A L.length c).ownBlock = some x → Of κ 1 x
  kc : Of κ 6 cb
  lo : ∀ x, κ x ≠ none → B ≤ x ∧ x < w.heap.size
theorem RDAt.pre {B : Nat} {w : World} {b mb cb : Nat} {m : DevM} {κ : Nat → Option Nat} {A : Option Addr} {c : Nat} {vv val : Value} (h : RDAt B w b mb m κ A c vv val cb) :
    RDPre B w b mb m.p m.max m.log A c m.m m.cell κ cb (.int .i64 m.p.watch) (.int .i64 m.since) (.int .i64 m.p.out) (.bool m.valve.running) (.bool m.valve.held) (.bool m.valve.fresh) (.int .i64 m.valve.latched) vv (.bool m.valve.value.isSome) (.int .i64 m.state) (.int .u32 m.session) (.int .u32 m.number) (.int .u32 m.sent) (.int .i64 m.odd) val (.bool m.hold) :=
  ⟨h.blk, h.log, h.mem, h.cell, h.kb, h.kl, h.kc, h.lo⟩
theorem rdLife_any (B b mb : Nat) (p : ParM) (mx : Int) (L : List Rec) (A : Option Addr) (c : Nat) (M : MemM) (C : CellM) (κ : Nat → Option Nat) (cb : Nat) (x9 x10 x11 x12 x13 x14 x15 x16 x17 x18 x19 x20 x21 x22 x23 x24 : Value) (s : Int) (w : World) (hp : p.lawful = true) (h : RDPre B w b mb p mx L A c M C κ cb x9 x10 x11 x12 x13 x14 x15 x16 x17 x18 x19 x20 x21 x22 x23 x24) :
    Calls Tryz.prog 52 #[.pointer (some ⟨b, 0, none⟩), .int .i64 s] w fun e w' => e = .returned (.tuple #[]) ∧ (∃ val, RDAt B w' b mb { p := p, m := M, max := mx, cell := C, log := L, state := s, value := List.replicate p.inn.toNat 0 } (paint κ 3 w w') A c (.slice none 0 0) val cb) ∧ Keep (fun x => x = b) w w' := by
  have hlaw := hp
  simp [ParM.lawful] at hlaw
  obtain ⟨N, hN⟩ : ∃ N : Nat, p.inn = (N : Int) := ⟨p.inn.toNat, by omega⟩
  have hN8 : N ≤ 8 := by omega
  have HN := Lib.hid hN
  have hmk := run_make_row' (P := Tryz.prog) 22 5 (.int .u8 0) 1 Tryz.underlying22 byte_info rfl .i64 .i64 N (by omega) (by omega)
  have hb := h.blk
  rw [hN] at hb
  clear hlaw hN
  have hc := hb.cell
  have hf := hb.frozen
  have hlt := hb.lt
  go_enter Tryz.func52, Tryz.ntmps52
  go_wp2_with fail
  go_end0
  clear hc hf
  have hb1 := ((((((((((((((((hb.set_ 9 (.int .i64 p.watch)).set_ 10 (.int .i64 0)).set_ 11 (.int .i64 p.out)).set_ 12 (.bool false)).set_ 13 (.bool false)).set_ 14 (.bool false)).set_ 15 (.int .i64 0)).set_ 16 (.slice none 0 0)).set_ 17 (.bool false)).set_ 18 (.int .i64 s)).set_ 19 (.int .u32 0)).set_ 20 (.int .u32 0)).set_ 21 (.int .u32 0)).set_ 22 (.int .i64 0)).set_ 23 (.slice (some ⟨w.heap.size, 0, none⟩) N N)).set_ 24 (.bool false))
  have hk1 : Keep (fun x => x = b) w ((((((((((((((((w.setCell ⟨b, 9, none⟩ (.int .i64 p.watch)).setCell ⟨b, 10, none⟩ (.int .i64 0)).setCell ⟨b, 11, none⟩ (.int .i64 p.out)).setCell ⟨b, 12, none⟩ (.bool false)).setCell ⟨b, 13, none⟩ (.bool false)).setCell ⟨b, 14, none⟩ (.bool false)).setCell ⟨b, 15, none⟩ (.int .i64 0)).setCell ⟨b, 16, none⟩ (.slice none 0 0)).setCell ⟨b, 17, none⟩ (.bool false)).setCell ⟨b, 18, none⟩ (.int .i64 s)).setCell ⟨b, 19, none⟩ (.int .u32 0)).setCell ⟨b, 20, none⟩ (.int .u32 0)).setCell ⟨b, 21, none⟩ (.int .u32 0)).setCell ⟨b, 22, none⟩ (.int .i64 0)).setCell ⟨b, 23, none⟩ (.slice (some ⟨w.heap.size, 0, none⟩) N N)).setCell ⟨b, 24, none⟩ (.bool false)) := (keepB (i := 24) (x := .bool false) (keepB (i := 23) (x := .slice (some ⟨w.heap.size, 0, none⟩) N N) (keepB (i := 22) (x := .int .i64 0) (keepB (i := 21) (x := .int .u32 0) (keepB (i := 20) (x := .int .u32 0) (keepB (i := 19) (x := .int .u32 0) (keepB (i := 18) (x := .int .i64 s) (keepB (i := 17) (x := .bool false) (keepB (i := 16) (x := .slice none 0 0) (keepB (i := 15) (x := .int .i64 0) (keepB (i := 14) (x := .bool false) (keepB (i := 13) (x := .bool false) (keepB (i := 12) (x := .bool false) (keepB (i := 11) (x := .int .i64 p.out) (keepB (i := 10) (x := .int .i64 0) (keepB (i := 9) (x := .int .i64 p.watch) (Keep.refl (fun x => x = b) w)))))))))))))))))
  have hz1 : ((((((((((((((((w.setCell ⟨b, 9, none⟩ (.int .i64 p.watch)).setCell ⟨b, 10, none⟩ (.int .i64 0)).setCell ⟨b, 11, none⟩ (.int .i64 p.out)).setCell ⟨b, 12, none⟩ (.bool false)).setCell ⟨b, 13, none⟩ (.bool false)).setCell ⟨b, 14, none⟩ (.bool false)).setCell ⟨b, 15, none⟩ (.int .i64 0)).setCell ⟨b, 16, none⟩ (.slice none 0 0)).setCell ⟨b, 17, none⟩ (.bool false)).setCell ⟨b, 18, none⟩ (.int .i64 s)).setCell ⟨b, 19, none⟩ (.int .u32 0)).setCell ⟨b, 20, none⟩ (.int .u32 0)).setCell ⟨b, 21, none⟩ (.int .u32 0)).setCell ⟨b, 22, none⟩ (.int .i64 0)).setCell ⟨b, 23, none⟩ (.slice (some ⟨w.heap.size, 0, none⟩) N N)).setCell ⟨b, 24, none⟩ (.bool false)).heap.size = w.heap.size := by simp [World.setCell]
  simp only [List.setIfInBounds_toArray, List.set_cons_zero, List.set_cons_succ] at hb1
  generalize ((((((((((((((((w.setCell ⟨b, 9, none⟩ (.int .i64 p.watch)).setCell ⟨b, 10, none⟩ (.int .i64 0)).setCell ⟨b, 11, none⟩ (.int .i64 p.out)).setCell ⟨b, 12, none⟩ (.bool false)).setCell ⟨b, 13, none⟩ (.bool false)).setCell ⟨b, 14, none⟩ (.bool false)).setCell ⟨b, 15, none⟩ (.int .i64 0)).setCell ⟨b, 16, none⟩ (.slice none 0 0)).setCell ⟨b, 17, none⟩ (.bool false)).setCell ⟨b, 18, none⟩ (.int .i64 s)).setCell ⟨b, 19, none⟩ (.int .u32 0)).setCell ⟨b, 20, none⟩ (.int .u32 0)).setCell ⟨b, 21, none⟩ (.int .u32 0)).setCell ⟨b, 22, none⟩ (.int .i64 0)).setCell ⟨b, 23, none⟩ (.slice (some ⟨w.heap.size, 0, none⟩) N N)).setCell ⟨b, 24, none⟩ (.bool false)) = W3 at *
  clear hb hmk
  have hb4 := hb1.alloc (.cells (madeCells #[.int .u8 0] N) 5)
  have hk4 := hk1.alloc (.cells (madeCells #[.int .u8 0] N) 5)
  have hmade := own_made W3 N (by omega)
  have hz4 : w.heap.size < (W3.alloc (.cells (madeCells #[.int .u8 0] N) 5)).heap.size := by simp [hz1]
  rw [hz1] at hmade
  generalize W3.alloc (.cells (madeCells #[.int .u8 0] N) 5) = W4 at *
  have eN : p.inn.toNat = N := by rw [HN.out]; rfl
  have eL : (List.replicate N (0 : UInt8)).length = N := by simp
  have hS : ∀ t x, t ≠ 0 → Of κ t x → ¬ x = b := fun t x ht hx e => (hx.ne ht) (e ▸ h.kb)
  have hB : B ≤ w.heap.size := by have := h.lo b h.kb.has; omega
  refine ⟨rfl, ⟨.slice (some ⟨w.heap.size, 0, none⟩) N N, ?_⟩, hk4⟩
  exact {
    blk := by rw [← HN.out] at hb4; exact hb4
    log := ownsRow_keep h.log hk4 (fun x hx => hS 1 x (by decide) (h.kl x hx))
    vval := rfl
    value := by show W4.ownsRow 0 5 1 _ (List.replicate p.inn.toNat (0 : UInt8)).length _; rw [eN, eL]; exact own_base hmade (Nat.zero_le _)
    mem := h.mem.keep hk4 (fun x => hS 5 x (by decide)) (fun x hx => paint_old hx h.lo)
    cell := Blk.keep h.cell hk4 (hS 6 _ (by decide) h.kc)
    kb := paint_old h.kb h.lo
    kl := fun x hx => paint_old (h.kl x hx) h.lo
    kv := fun x hx => by simp [Value.ownBlock] at hx
    kx := fun x hx => by simp [Value.ownBlock] at hx; subst hx; exact paint_new (Nat.le_refl _) hz4
    kc := paint_old h.kc h.lo
    lo := paint_lo h.lo hB hk4.size }
theorem rdLifeTo_any (B b mb : Nat) (m : DevM) (F : Nat → Prop) (s : Int) (w : World) (hI : RDIs B w b mb m F) (hp : m.p.lawful = true) :
    Calls Tryz.prog 52 #[.pointer (some ⟨b, 0, none⟩), .int .i64 s] w fun e w' => e = .returned (.tuple #[]) ∧ RDTo B w b mb (m.life s) F w' := by
  have hI0 := hI
  obtain ⟨⟨κ, A, c, vv, val, cb, hH, hF⟩, hlo⟩ := hI
  refine (rdLife_any B b mb m.p m.max m.log A c m.m m.cell κ cb _ _ _ _ _ _ _ _ _ _ _ _ _ _ _ _ s w hp hH.pre).mono ?_
  rintro e w' ⟨rfl, ⟨val', h1⟩, hk⟩
  exact ⟨rfl, RDAt.toIs (m1 := m.life s) h1 hI0 (paint_sub hF) (hk.mono (fun x _ e => e ▸ hI0.Fb))⟩
/-- What a device has of a new cell. -/
theorem RDAt.newCell {B : Nat} {w w' : World} {b mb cb cb' : Nat} {m : DevM} {κ : Nat → Option Nat} {A : Option Addr} {c : Nat} {vv val : Value} {M' : MemM} {C' : CellM} (h : RDAt B w b mb m κ A c vv val cb) (hb : Blk w' b 95 (rdCells { m with m := M', cell := C' } mb cb' (.slice A m.log.length c) vv val)) (hm : RMemIs w' mb M' (Of κ 5)) (hc : RCellIs w' cb' mb C') (hk : Keep (fun x => Of κ 5 x ∨ x = b) w w') (h1 : w.heap.size ≤ cb') (h2 : cb' < w'.heap.size) :
    RDAt B w' b mb { m with m := M', cell := C' } (paint κ 6 w w') A c vv val cb' :=
  have hS : ∀ t x, t ≠ 5 → t ≠ 0 → Of κ t x → ¬ (Of κ 5 x ∨ x = b) := fun t x h5 h0 hx e => e.elim (hx.ne h5) (fun e => (hx.ne h0) (e ▸ h.kb))
  { blk := hb
    log := ownsRow_keep h.log hk (fun x hx => hS 1 x (by decide) (by decide) (h.kl x hx))
    vval := h.vval.keep hk (fun x hx => hS 2 x (by decide) (by decide) (h.kv x hx))
    value := ownsRow_keep h.value hk (fun x hx => hS 3 x (by decide) (by decide) (h.kx x hx))
    mem := hm.keep (S := fun _ => False) (Keep.refl _ _) (fun _ _ h => h) (fun x hx => paint_old hx h.lo)
    cell := hc
    kb := paint_old h.kb h.lo
    kl := fun x hx => paint_old (h.kl x hx) h.lo
    kv := fun x hx => paint_old (h.kv x hx) h.lo
    kx := fun x hx => paint_old (h.kx x hx) h.lo
    kc := paint_new h1 h2
    lo := paint_lo h.lo h.Ble hk.size }
theorem rdReset_any (B b mb : Nat) (m : DevM) (F : Nat → Prop) (n : Int) (w : World) (hI : RDIs B w b mb m F) (hi : m.Inv) (hn : n < 9223372036854775808) :
    Calls Tryz.prog 68 #[.pointer (some ⟨b, 0, none⟩), .int .i64 n] w fun e w' => e = .returned (.int .i64 (m.reset n).2) ∧ RDTo B w b mb (m.reset n).1 F w' := by
  have hI0 := hI
  by_cases h0 : n < 0
  · have e1 : m.reset n = (m, 2) := by unfold DevM.reset; rw [if_pos h0]
    rw [e1]
    go_enter Tryz.func68, Tryz.ntmps68
    go_wp2_with fail
    go_ret
    exact ⟨rfl, RDTo.refl hI0⟩
  obtain ⟨q, Hq⟩ : ∃ q, Hid (q = m.reset n) := ⟨_, Lib.hid rfl⟩
  rw [← Hq.out]
  obtain ⟨M2, HM2⟩ : ∃ M2 : MemM, Hid (M2 = if 0 < n then (m.m.on.arm (n - 1)).1 else m.m.on) := ⟨_, Lib.hid rfl⟩
  have Hq1 : Hid (q = match openM M2 m.max with
    | (m', some c, _) => ({ (m.life 1) with m := m', cell := c }, 0)
    | (m', none, e) => ({ (m.life 6) with m := m' }, e)) := Lib.hid (by rw [Hq.out, HM2.out]; unfold DevM.reset; rw [if_neg h0]; rfl)
  clear Hq
  have hnw : IntKind.i64.wrap (n - 1) = n - 1 := IntWalk.i64_in _ (by omega)
  have hmx := hi.mx
  -- a new life
  have hlife := rdLifeTo_any B b mb m F 1 w hI0 hi.plaw
  go_enter Tryz.func68, Tryz.ntmps68
  go_wp2_with fail
  refine hlife.mono ?_
  rintro e W1 ⟨rfl, t1⟩
  have hs1 := t1.keep.size
  obtain ⟨⟨κ1, A1, c1, vv1, val1, cb1, hH1, hF1⟩, _⟩ := id t1.is_
  have hc := hH1.blk.cell
  unfold rdCells at hc
  clear hlife
  go_wp2_with fail
  refine (rmemOn_any mb _ (Of κ1 5) W1 hH1.mem).mono ?_
  rintro e W2 ⟨rfl, tm⟩
  have h2 := hH1.onMem tm
  have t2 := RDTo.trans hI0 t1 (hH1.toMem t1.is_ hF1 tm)
  have hz2 := tm.size
  clear hc tm hH1
  have hc := h2.blk.cell
  unfold rdCells at hc
  by_cases hp : 0 < n
  case' pos =>
    have e2 : M2 = (m.m.on.arm (n - 1)).1 := by rw [HM2.out, if_pos hp]
    go_wp2_with fail
    refine (rmemArm_any mb m.m.on (Of κ1 5) (n - 1) W2 h2.mem (by omega)).mono ?_
    rintro e W3 ⟨rfl, ta⟩
    rw [← e2] at ta
    have h3 : RDAt B W3 b mb { (m.life 1) with m := M2 } κ1 A1 c1 vv1 val1 cb1 := h2.onMem ta
    have hz3 : W3.heap.size = W1.heap.size := by have := ta.size; omega
    have hk3 : Keep F w W3 := t2.keep.andThen ta.keep (fun x hx hh => by
      rcases hF1 x (Of.has hh) with h | h
      · exact h
      · omega)
    clear ta e2
  case' neg =>
    have e2 : M2 = m.m.on := by rw [HM2.out, if_neg hp]
    obtain ⟨W3, rfl⟩ : ∃ W : World, W = W2 := ⟨_, rfl⟩
    have h3 : RDAt B W3 b mb { (m.life 1) with m := M2 } κ1 A1 c1 vv1 val1 cb1 := by rw [e2]; exact h2
    have hz3 : W3.heap.size = W1.heap.size := by omega
    have hk3 : Keep F w W3 := t2.keep
    clear e2
  all_goals
    clear hc h2 t2 HM2
    have hF3 : ∀ x, κ1 x ≠ none → grow F w W3 x := fun x hx => (hF1 x hx).elim .inl (fun h => .inr ⟨h.1, by omega⟩)
    have t3 := h3.toIs hI0 hF3 hk3
    have hop := fun W h hF => rOpen_any mb M2 (Of κ1 5) m.max W h hF
    have hno := @openM_none M2 m.max
    have hso := @openM_some M2 m.max
    generalize openM M2 m.max = r at *
    obtain ⟨M4, co, er⟩ := r
    simp only at hop Hq1 hno hso
    have h3d := h3.drew
    have hb3 := h3d.blk
    have hc := h3.blk.cell
    unfold rdCells at hc
    have hcd : W3.drew.cell? ⟨b, 5, none⟩ = some (.pointer (some ⟨mb, 0, none⟩)) ∧ W3.drew.cell? ⟨b, 6, none⟩ = some (.int .u32 m.max) := ⟨(hb3.cell 5).trans rfl, (hb3.cell 6).trans rfl⟩
    have hlt : ∀ x, Of κ1 5 x → x < W3.drew.heap.size := fun x hx => (h3.inF hx).2
    have hka : ¬ Of κ1 5 b := h3.kb.ne (by decide)
    have hk3d := hk3.drew
    clear h3 hk3
    cases co with
    | some k =>
      obtain ⟨_, _, her⟩ := hso (k := k) rfl
      subst her
      have hq : q = ({ (m.life 1) with m := M4, cell := k }, 0) := Hq1.out
      subst hq
      clear hso hno Hq1
      go_wp2_with fail
      go_region_held (fun w' => w'.cell? ⟨b, 5, none⟩ = some (.pointer (some ⟨mb, 0, none⟩)) ∧ w'.cell? ⟨b, 6, none⟩ = some (.int .u32 m.max)) (exact ⟨(hb3.cell 5).trans rfl, (hb3.cell 6).trans rfl⟩) (first
        | (go_at_call 51; refine (hop _ h3d.mem hlt).mono ?_; rintro e W4 ⟨⟨hm4, hk4⟩, c4, rfl, _, hcell4, hl1, hl2⟩; replace hb3 := hb3.keep hk4 hka))
      have hf4 := hb3.frozen
      clear hc
      have hc := hb3.cell
      unfold rdCells at hc
      have hk6 : Keep (fun x => Of κ1 5 x ∨ x = b) W3.drew (W4.setCell ⟨b, 7, none⟩ (.pointer (some ⟨c4, 0, none⟩))) := (hk4.mono (fun x _ hx => .inl hx)).setCell (p := ⟨b, 7, none⟩) (fun _ => .inr rfl) _
      have hbl := hb3.lt
      have hcb : b ≠ c4 := by have := (h3d.inF h3d.kb).2; omega
      have h5 := h3d.newCell (w' := W4.setCell ⟨b, 7, none⟩ (.pointer (some ⟨c4, 0, none⟩))) (M' := M4) (C' := k) (cb' := c4) (by simpa [rdCells] using hb3.set_ 7 (.pointer (some ⟨c4, 0, none⟩))) (hm4.keep (S := fun x => x = b) (keepB (Keep.refl _ W4)) (fun x hx e => hka (e ▸ hx)) (fun _ h => h)) (Blk.far hcell4 (p := ⟨b, 7, none⟩) (fun e => hcb e.symm) _) hk6 hl1 (by simpa [World.setCell] using hl2)
      have T := h5.toIs hI0 (fun x hx => grow_grow (w1 := W3.drew) hk3d.size hk6.size x (paint_sub (F := grow F w W3.drew) hF3 x hx)) (hk3d.andThen hk6 (fun x hx hh => by
        rcases hh with hh | hh
        · rcases hF1 x (Of.has hh) with h | h
          · exact h
          · omega
        · exact hh ▸ hI0.Fb))
      have HT := Lib.hid T
      clear T h5 hk6 hk4 hcell4 hm4
      go_wp2_with fail
      go_ret
      exact ⟨rfl, HT.out⟩
    | none =>
      have her := hno rfl
      have hq : q = ({ (m.life 6) with m := M4 }, er) := Hq1.out
      subst hq
      have ger : (er != 0) = true := by simpa using her
      clear hso hno Hq1
      go_wp2_with fail
      go_region_held (fun w' => w'.cell? ⟨b, 5, none⟩ = some (.pointer (some ⟨mb, 0, none⟩)) ∧ w'.cell? ⟨b, 6, none⟩ = some (.int .u32 m.max)) (exact ⟨(hb3.cell 5).trans rfl, (hb3.cell 6).trans rfl⟩) (first
        | (go_at_call 51; refine (hop _ h3d.mem hlt).mono ?_; rintro e W4 ⟨⟨hm4, hk4⟩, rfl⟩; replace hb3 := hb3.keep hk4 hka))
      have h4 := h3d.onCell hm4 (Blk.keep h3d.cell hk4 (h3d.kc.ne (by decide))) (hk4.mono (fun x _ h => .inl h))
      have hs4 := hk4.size
      have T := h4.toIs hI0 (fun x hx => (hF3 x hx).elim .inl (fun h => .inr ⟨h.1, Nat.lt_of_lt_of_le h.2 hs4⟩)) (hk3d.andThen hk4 (fun x hx hh => by
        rcases hF1 x (Of.has hh) with h | h
        · exact h
        · omega))
      clear hc hcd h4
      go_wp2_with fail
      refine (rdLifeTo_any B b mb _ _ 6 W4 T.is_ hi.plaw).mono ?_
      rintro e W5 ⟨rfl, t5⟩
      have T5 := RDTo.trans hI0 T t5
      go_wp2_with fail
      go_ret
      exact ⟨rfl, T5⟩
end Go.Proofs.YtlldgfejcjnpkaaGreat
/- The reference's device: wish. -/
namespace Go.Proofs.YtlldgfejcjnpkaaGreat
open Go.RowKit
set_option maxHeartbeats 10000000
set_option maxRecDepth 100000

theorem rdWish_any (B b mb : Nat) (m : DevM) (F : Nat → Prop) (w : World) (hI : RDIs B w b mb m F) (hi : m.Inv) (hlen : m.log.length < 1073741820) :
    Calls Tryz.prog 107 #[.pointer (some ⟨b, 0, none⟩)] w fun e w' => RDAns B w b mb F m.wish e w' := by
  have hI0 := hI
  obtain ⟨⟨κ, A, c, vv, val, cb, hH, hF⟩, hlo⟩ := hI
  have hc := hH.blk.cell
  unfold rdCells at hc
  have hbz := rdBusy_any b mb cb m _ vv val w hH.blk
  obtain ⟨q, Hq⟩ : ∃ q, Hid (q = m.wish) := ⟨_, Lib.hid rfl⟩
  rw [← Hq.out]
  unfold RDAns
  cases hbu : m.busy with
  | false =>
    rw [hbu] at hbz
    have Hq0 : Hid (q = m.begin_) := Lib.hid (by rw [Hq.out]; unfold DevM.wish; rw [hbu]; rfl)
    clear Hq hbu
    go_enter Tryz.func107, Tryz.ntmps107
    go_wp2_with fail
    refine hbz.mono ?_
    rintro e W0 ⟨rfl, rfl⟩
    have hnx := rNext_any cb mb m.cell m.m (Of κ 5) _ hH.mem hH.cell (fun x hx => (hH.inF hx).2) (hH.kc.ne (by decide)) hi.mem ⟨hi.cval.1, by rw [hi.cmax]; exact hi.mx.2⟩
    have hnc := next_cell m.cell m.m hi.cval.1 (by rw [hi.cmax]; exact hi.mx.2) hi.cval.2
    have hnl := next_len m.cell m.m
    have hne := next_err m.cell m.m
    have hcm := hi.cmax
    have hme := hi.mem
    have Hq1 : Hid (q = (if (m.cell.next m.m).2.2.2 = 80 then ((({ m with cell := (m.cell.next m.m).1, m := (m.cell.next m.m).2.1 } : DevM).trip 80).leave 5, ((({ m with cell := (m.cell.next m.m).1, m := (m.cell.next m.m).2.1 } : DevM).trip 80).leave 5).none, 80)
      else if (m.cell.next m.m).2.2.2 ≠ 0 then (({ m with cell := (m.cell.next m.m).1, m := (m.cell.next m.m).2.1 } : DevM).life 6, [], 70)
      else ({ (({ m with cell := (m.cell.next m.m).1, m := (m.cell.next m.m).2.1 } : DevM).leave 2) with session := (m.cell.next m.m).2.2.1 }, DevM.offer { (({ m with cell := (m.cell.next m.m).1, m := (m.cell.next m.m).2.1 } : DevM).leave 2) with session := (m.cell.next m.m).2.2.1 }, 0))) := Lib.hid (by rw [Hq0.out]; rfl)
    clear Hq0
    have Hm := Lib.hid hcm
    generalize m.cell.next m.m = r at *
    obtain ⟨c', m', s, er⟩ := r
    simp only at hnx hnc hnl hne
    have hgi : ({ m with cell := c', m := m' } : DevM).Inv := { hi with cmax := by have := Hm.out; simp only; omega, cval := hnc.2.1, mem := by simp only; omega }
    clear hcm hme hnl Hm
    go_wp2_with fail
    refine hnx.mono ?_
    rintro e W1 ⟨rfl, hm1, hc1, hk1⟩
    have tN := id (hH.toCell hI0 hF hm1 hc1 hk1)
    clear hc hnx hm1 hc1 hk1 hH
    rcases hne with rfl | rfl | rfl
    · have hq := Hq1.out
      rw [if_neg (by simp), if_neg (by simp)] at hq
      clear Hq1
      have hki : ({ (({ m with cell := c', m := m' } : DevM).leave 2) with session := s } : DevM).Inv := { hgi.leave 2 (by omega) with session := hnc.2.2 }
      obtain ⟨of, Hof⟩ : ∃ of, Hid (of = DevM.offer { (({ m with cell := c', m := m' } : DevM).leave 2) with session := s }) := ⟨_, Lib.hid rfl⟩
      have Hf : Hid (q = (_, of, _)) := Lib.hid (by rw [Hof.out]; exact hq)
      clear hq
      go_wp2_with fail
      refine (rdLeave_any B b mb _ _ 2 W1 tN.is_).mono ?_
      rintro e W2 ⟨rfl, t2⟩
      have tQ := RDTo.trans hI0 tN t2
      obtain ⟨⟨κ2, A2, c2, vv2, val2, cb2, h2, hF2⟩, _⟩ := tQ.is_
      have hb2 := h2.blk
      have hc2 := hb2.cell
      have hf2 := hb2.frozen
      unfold rdCells at hc2
      have h3 : RDAt B (W2.setCell ⟨b, 19, none⟩ (.int .u32 s)) b mb { (({ m with cell := c', m := m' } : DevM).leave 2) with session := s } κ2 A2 c2 vv2 val2 cb2 :=
        h2.upd (keepB (Keep.refl _ W2)) (by simp [World.setCell]) (by simpa [rdCells] using hb2.set_ 19 (.int .u32 s)) rfl rfl rfl rfl rfl
      have t3 := RDTo.trans hI0 tQ (h2.toOwn tQ.is_ hF2 h3 (keepB (Keep.refl _ W2)))
      have hof := fun G W hW => rdOffer_any B b mb { (({ m with cell := c', m := m' } : DevM).leave 2) with session := s } G W hW hki
      rw [← Hof.out] at hof
      clear h2 h3 hb2 t2 tQ
      go_wp2_with fail
      refine (hof _ _ t3.is_).mono ?_
      rintro e W3 ⟨v3, rfl, hown3, hb3⟩
      obtain ⟨A3, c3, rfl⟩ := own_slice hown3
      have hs3 := t3.keep.size
      clear hc2 hf2 hof
      go_wp2_with fail
      refine bodyPost_ret (v := .tuple #[.slice A3 of.length c3, .int .i64 0]) (by simp [results, Tryz.results107, go_sem]) rfl ?_
      rw [Hf.out]
      exact ⟨_, rfl, own_base hown3 hs3, RDAp.end_ hI0 t3 hb3 hown3⟩
    · have hq := Hq1.out
      rw [if_neg (by simp), if_pos (by simp)] at hq
      have Hf := Lib.hid hq
      clear hq Hq1
      go_wp2_with fail
      refine (rdLifeTo_any B b mb _ _ 6 W1 tN.is_ hgi.plaw).mono ?_
      rintro e W2 ⟨rfl, t2⟩
      have tQ := RDTo.trans hI0 tN t2
      go_wp2_with fail
      refine bodyPost_ret (v := .tuple #[.slice none 0 0, .int .i64 70]) (by simp [results, Tryz.results107, go_sem]) rfl ?_
      rw [Hf.out]
      exact ⟨_, rfl, World.ownsRow_nil _ _ _ _, RDAp.nil_ tQ⟩
    · have hq := Hq1.out
      rw [if_pos rfl] at hq
      clear Hq1
      obtain ⟨of, Hof⟩ : ∃ of, Hid (of = ((({ m with cell := c', m := m' } : DevM).trip 80).leave 5).none) := ⟨_, Lib.hid rfl⟩
      have Hf : Hid (q = (_, of, _)) := Lib.hid (by rw [Hof.out]; exact hq)
      clear hq
      have hnn := fun G W hW => rdNone_any B b mb ((({ m with cell := c', m := m' } : DevM).trip 80).leave 5) G W hW ((hgi.trip 80).leave 5 (by omega))
      rw [← Hof.out] at hnn
      go_wp2_with fail
      refine (rdLatch_any B b mb _ _ 80 W1 (by decide) tN.is_ (by simp only; omega)).mono ?_
      rintro e W2 ⟨rfl, t2⟩
      have tQ := RDTo.trans hI0 tN t2
      go_wp2_with fail
      refine (rdLeave_any B b mb _ _ 5 W2 tQ.is_).mono ?_
      rintro e W3 ⟨rfl, t3⟩
      have tR := RDTo.trans hI0 tQ t3
      clear t2 tQ t3
      go_wp2_with fail
      refine (hnn _ _ tR.is_).mono ?_
      rintro e W4 ⟨v4, rfl, hown4, hb4⟩
      obtain ⟨A4, c4, rfl⟩ := own_slice hown4
      have hs4 := tR.keep.size
      go_wp2_with fail
      refine bodyPost_ret (v := .tuple #[.slice A4 of.length c4, .int .i64 80]) (by simp [results, Tryz.results107, go_sem]) rfl ?_
      rw [Hf.out]
      exact ⟨_, rfl, own_base hown4 hs4, RDAp.end_ hI0 tR hb4 hown4⟩
  | true =>
    rw [hbu] at hbz
    have hst := rdStrange_any B b mb m F w hI0 hi (by omega)
    have hqi := hi.strange
    have hsl := strange_log m
    have Hqs : Hid (q = if m.strange.2 then m.strange.1.begin_ else if m.strange.1.state = 2 then (m.strange.1, m.strange.1.offer, 130) else (m.strange.1, m.strange.1.none, 130)) := Lib.hid (by rw [Hq.out]; unfold DevM.wish; rw [hbu]; rfl)
    clear Hq hbu hc hH
    generalize m.strange = st at *
    obtain ⟨k, ov⟩ := st
    simp only at *
    go_enter Tryz.func107, Tryz.ntmps107
    go_wp2_with fail
    refine hbz.mono ?_
    rintro e W0 ⟨rfl, rfl⟩
    go_wp2_with fail
    refine hst.mono ?_
    rintro e W0 ⟨rfl, t0⟩
    cases ov with
    | true =>
      have Hq0 : Hid (q = k.begin_) := Lib.hid (by rw [Hqs.out]; rfl)
      clear Hqs hbz hst
      clear κ A c vv val cb hF
      have hI1 := t0.is_
      obtain ⟨⟨κ, A, c, vv, val, cb, hH, hF⟩, hlo1⟩ := t0.is_
      have hc := hH.blk.cell
      unfold rdCells at hc
      have hnx := rNext_any cb mb k.cell k.m (Of κ 5) _ hH.mem hH.cell (fun x hx => (hH.inF hx).2) (hH.kc.ne (by decide)) hqi.mem ⟨hqi.cval.1, by rw [hqi.cmax]; exact hqi.mx.2⟩
      have hnc := next_cell k.cell k.m hqi.cval.1 (by rw [hqi.cmax]; exact hqi.mx.2) hqi.cval.2
      have hnl := next_len k.cell k.m
      have hne := next_err k.cell k.m
      have hcm := hqi.cmax
      have hme := hqi.mem
      have Hq1 : Hid (q = (if (k.cell.next k.m).2.2.2 = 80 then ((({ k with cell := (k.cell.next k.m).1, m := (k.cell.next k.m).2.1 } : DevM).trip 80).leave 5, ((({ k with cell := (k.cell.next k.m).1, m := (k.cell.next k.m).2.1 } : DevM).trip 80).leave 5).none, 80)
        else if (k.cell.next k.m).2.2.2 ≠ 0 then (({ k with cell := (k.cell.next k.m).1, m := (k.cell.next k.m).2.1 } : DevM).life 6, [], 70)
        else ({ (({ k with cell := (k.cell.next k.m).1, m := (k.cell.next k.m).2.1 } : DevM).leave 2) with session := (k.cell.next k.m).2.2.1 }, DevM.offer { (({ k with cell := (k.cell.next k.m).1, m := (k.cell.next k.m).2.1 } : DevM).leave 2) with session := (k.cell.next k.m).2.2.1 }, 0))) := Lib.hid (by rw [Hq0.out]; rfl)
      clear Hq0
      have Hk := Lib.hid hcm
      generalize k.cell.next k.m = r at *
      obtain ⟨c', m', s, er⟩ := r
      simp only at hnx hnc hnl hne
      have hgi : ({ k with cell := c', m := m' } : DevM).Inv := { hqi with cmax := by have := Hk.out; simp only; omega, cval := hnc.2.1, mem := by simp only; omega }
      clear hcm hme hnl Hk
      go_wp2_with fail
      refine hnx.mono ?_
      rintro e W1 ⟨rfl, hm1, hc1, hk1⟩
      have tN := RDTo.trans hI0 t0 (hH.toCell hI1 hF hm1 hc1 hk1)
      clear hc hnx hm1 hc1 hk1 hH
      rcases hne with rfl | rfl | rfl
      · have hq := Hq1.out
        rw [if_neg (by simp), if_neg (by simp)] at hq
        clear Hq1
        have hki : ({ (({ k with cell := c', m := m' } : DevM).leave 2) with session := s } : DevM).Inv := { hgi.leave 2 (by omega) with session := hnc.2.2 }
        obtain ⟨of, Hof⟩ : ∃ of, Hid (of = DevM.offer { (({ k with cell := c', m := m' } : DevM).leave 2) with session := s }) := ⟨_, Lib.hid rfl⟩
        have Hf : Hid (q = (_, of, _)) := Lib.hid (by rw [Hof.out]; exact hq)
        clear hq
        go_wp2_with fail
        refine (rdLeave_any B b mb _ _ 2 W1 tN.is_).mono ?_
        rintro e W2 ⟨rfl, t2⟩
        have tQ := RDTo.trans hI0 tN t2
        obtain ⟨⟨κ2, A2, c2, vv2, val2, cb2, h2, hF2⟩, _⟩ := tQ.is_
        have hb2 := h2.blk
        have hc2 := hb2.cell
        have hf2 := hb2.frozen
        unfold rdCells at hc2
        have h3 : RDAt B (W2.setCell ⟨b, 19, none⟩ (.int .u32 s)) b mb { (({ k with cell := c', m := m' } : DevM).leave 2) with session := s } κ2 A2 c2 vv2 val2 cb2 :=
          h2.upd (keepB (Keep.refl _ W2)) (by simp [World.setCell]) (by simpa [rdCells] using hb2.set_ 19 (.int .u32 s)) rfl rfl rfl rfl rfl
        have t3 := RDTo.trans hI0 tQ (h2.toOwn tQ.is_ hF2 h3 (keepB (Keep.refl _ W2)))
        have hof := fun G W hW => rdOffer_any B b mb { (({ k with cell := c', m := m' } : DevM).leave 2) with session := s } G W hW hki
        rw [← Hof.out] at hof
        clear h2 h3 hb2 t2 tQ
        go_wp2_with fail
        refine (hof _ _ t3.is_).mono ?_
        rintro e W3 ⟨v3, rfl, hown3, hb3⟩
        obtain ⟨A3, c3, rfl⟩ := own_slice hown3
        have hs3 := t3.keep.size
        clear hc2 hf2 hof
        go_wp2_with fail
        refine bodyPost_ret (v := .tuple #[.slice A3 of.length c3, .int .i64 0]) (by simp [results, Tryz.results107, go_sem]) rfl ?_
        rw [Hf.out]
        exact ⟨_, rfl, own_base hown3 hs3, RDAp.end_ hI0 t3 hb3 hown3⟩
      · have hq := Hq1.out
        rw [if_neg (by simp), if_pos (by simp)] at hq
        have Hf := Lib.hid hq
        clear hq Hq1
        go_wp2_with fail
        refine (rdLifeTo_any B b mb _ _ 6 W1 tN.is_ hgi.plaw).mono ?_
        rintro e W2 ⟨rfl, t2⟩
        have tQ := RDTo.trans hI0 tN t2
        go_wp2_with fail
        refine bodyPost_ret (v := .tuple #[.slice none 0 0, .int .i64 70]) (by simp [results, Tryz.results107, go_sem]) rfl ?_
        rw [Hf.out]
        exact ⟨_, rfl, World.ownsRow_nil _ _ _ _, RDAp.nil_ tQ⟩
      · have hq := Hq1.out
        rw [if_pos rfl] at hq
        clear Hq1
        obtain ⟨of, Hof⟩ : ∃ of, Hid (of = ((({ k with cell := c', m := m' } : DevM).trip 80).leave 5).none) := ⟨_, Lib.hid rfl⟩
        have Hf : Hid (q = (_, of, _)) := Lib.hid (by rw [Hof.out]; exact hq)
        clear hq
        have hnn := fun G W hW => rdNone_any B b mb ((({ k with cell := c', m := m' } : DevM).trip 80).leave 5) G W hW ((hgi.trip 80).leave 5 (by omega))
        rw [← Hof.out] at hnn
        go_wp2_with fail
        refine (rdLatch_any B b mb _ _ 80 W1 (by decide) tN.is_ (by simp only; omega)).mono ?_
        rintro e W2 ⟨rfl, t2⟩
        have tQ := RDTo.trans hI0 tN t2
        go_wp2_with fail
        refine (rdLeave_any B b mb _ _ 5 W2 tQ.is_).mono ?_
        rintro e W3 ⟨rfl, t3⟩
        have tR := RDTo.trans hI0 tQ t3
        clear t2 tQ t3
        go_wp2_with fail
        refine (hnn _ _ tR.is_).mono ?_
        rintro e W4 ⟨v4, rfl, hown4, hb4⟩
        obtain ⟨A4, c4, rfl⟩ := own_slice hown4
        have hs4 := tR.keep.size
        go_wp2_with fail
        refine bodyPost_ret (v := .tuple #[.slice A4 of.length c4, .int .i64 80]) (by simp [results, Tryz.results107, go_sem]) rfl ?_
        rw [Hf.out]
        exact ⟨_, rfl, own_base hown4 hs4, RDAp.end_ hI0 tR hb4 hown4⟩
    | false =>
      obtain ⟨⟨κ1, A1, c1, vv1, val1, cb1, h1, hF1⟩, hlo1⟩ := id t0.is_
      have hc := h1.blk.cell
      unfold rdCells at hc
      have hs0 := t0.keep.size
      clear hbz hst h1
      by_cases hs : k.state = 2
      · have e1 : q = (k, k.offer, 130) := by rw [Hqs.out, if_neg (by simp), if_pos hs]
        rw [hs] at hc
        have hof := rdOffer_any B b mb k _ W0 t0.is_ hqi
        have Hf0 := Lib.hid e1
        clear e1
        obtain ⟨of, Hof⟩ : ∃ of, Hid (of = k.offer) := ⟨_, Lib.hid rfl⟩
        rw [← Hof.out] at hof
        have Hf : Hid (q = (k, of, 130)) := Lib.hid (by rw [Hof.out]; exact Hf0.out)
        go_wp2_with fail
        refine hof.mono ?_
        rintro e W3 ⟨v3, rfl, hown3, hb3⟩
        obtain ⟨A3, c3, rfl⟩ := own_slice hown3
        go_wp2_with fail
        refine bodyPost_ret (v := .tuple #[.slice A3 of.length c3, .int .i64 130]) (by simp [results, Tryz.results107, go_sem]) rfl ?_
        rw [Hf.out]
        exact ⟨_, rfl, own_base hown3 hs0, RDAp.end_ hI0 t0 hb3 hown3⟩
      · have e1 : q = (k, k.none, 130) := by rw [Hqs.out, if_neg (by simp), if_neg hs]
        have gs : (k.state == 2) = false := by simpa using hs
        have hof := rdNone_any B b mb k _ W0 t0.is_ hqi
        have Hf0 := Lib.hid e1
        clear e1
        obtain ⟨of, Hof⟩ : ∃ of, Hid (of = k.none) := ⟨_, Lib.hid rfl⟩
        rw [← Hof.out] at hof
        have Hf : Hid (q = (k, of, 130)) := Lib.hid (by rw [Hof.out]; exact Hf0.out)
        go_wp2_with fail
        refine hof.mono ?_
        rintro e W3 ⟨v3, rfl, hown3, hb3⟩
        obtain ⟨A3, c3, rfl⟩ := own_slice hown3
        go_wp2_with fail
        refine bodyPost_ret (v := .tuple #[.slice A3 of.length c3, .int .i64 130]) (by simp [results, Tryz.results107, go_sem]) rfl ?_
        rw [Hf.out]
        exact ⟨_, rfl, own_base hown3 hs0, RDAp.end_ hI0 t0 hb3 hown3⟩
end Go.Proofs.YtlldgfejcjnpkaaGreat
/- The reference's device takes a unit. -/
namespace Go.Proofs.YtlldgfejcjnpkaaGreat
open Go.RowKit
set_option maxHeartbeats 10000000
set_option maxRecDepth 100000

/-- Where the reference's device takes a unit u (its data in a slice A). -/
structure RDTake (B : Nat) (w : World) (b mb : Nat) (m : DevM) (F : Nat → Prop) (u : UnitM) (A : Option Addr) (Br : Nat) : Prop where
  is_ : RDIs B w b mb m F
  inv : m.Inv
  ok : u.Ok
  rd : Reads w Br 1 A u.data.length (u8c u.data)
  rb : Br ≤ w.heap.size
  d8 : u.data.length ≤ 8
  len : m.log.length < 1073741800
  af : ∀ ad, A = some ad → ¬ F ad.block
theorem rdS5 {W : World} {b mb cb Br c u0 : Nat} {m : DevM} {lg vv val : Value} {A : Option Addr} {x0 x1 x2 x3 x4 : Value} {data : List UInt8} (hb : Blk W b 95 (rdCells m mb cb lg vv val)) (hu : Blk W u0 64 #[x0, x1, x2, x3, x4, .slice A data.length c]) (hr : Reads W Br 1 A data.length (u8c data)) :
    W.cell? ⟨b, 0, none⟩ = some (.int .u32 m.p.code) ∧ W.cell? ⟨b, 1, none⟩ = some (.int .i64 m.p.out) ∧ W.cell? ⟨b, 2, none⟩ = some (.int .i64 m.p.inn) ∧ W.cell? ⟨b, 3, none⟩ = some (.int .i64 m.p.watch) ∧ W.cell? ⟨b, 4, none⟩ = some (.int .u32 m.p.count) ∧
      W.cell? ⟨u0, 5, none⟩ = some (.slice A data.length c) ∧ (convert 22 9 (.slice A data.length c)).run Tryz.prog W = .ok (.string ⟨data.toArray⟩) W :=
  ⟨(hb.cell 0).trans rfl, (hb.cell 1).trans rfl, (hb.cell 2).trans rfl, (hb.cell 3).trans rfl, (hb.cell 4).trans rfl, (hu.cell 5).trans rfl, conv_reads hr⟩
end Go.Proofs.YtlldgfejcjnpkaaGreat
