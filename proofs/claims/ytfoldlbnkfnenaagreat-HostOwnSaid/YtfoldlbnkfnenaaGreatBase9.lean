/- The base of the laws of the host, part 9: contracts and plain lemmas, no statement. -/
import Derived.Test.YtfoldlbnkfnenaaGreatBase8
/- The reference's host: on, Flags, Tick, Ack, Write, frame. -/
namespace Go.Proofs.YtfoldlbnkfnenaaGreat
open Go.RowKit
set_option maxHeartbeats 10000000
set_option maxRecDepth 100000

theorem rhOn_any (B b : Nat) (m : HostM) (F : Nat → Prop) (w : World) (h0 : RHIs B w b m F) (hfr : m.valve.fresh = true → m.valve.latched ≠ 0) :
    Calls Tryz.prog 95 #[.pointer (some ⟨b, 0, none⟩)] w fun e w' => e = .returned (.tuple #[]) ∧ RHTo B w b m.alive F w' := by
  obtain ⟨A, c, vv, val, hH⟩ := h0
  have hb := hH.blk
  have hc := hb.cell
  have hf := hb.frozen
  unfold rhCells at hc
  have h1 : RHAt B (((w.setCell ⟨b, 19, none⟩ (.bool false)).setCell ⟨b, 20, none⟩ (.int .i64 0)).setCell ⟨b, 7, none⟩ (.int .i64 0)) b { m with waits := false, missed := 0, since := 0 } F A c vv val :=
    hH.upd ((((Keep.refl (fun x => x = b) w).setCell (p := ⟨b, 19, none⟩) (fun _ => rfl) _).setCell (p := ⟨b, 20, none⟩) (fun _ => rfl) _).setCell (p := ⟨b, 7, none⟩) (fun _ => rfl) _) (by simp [World.setCell])
      (by simpa [rhCells] using ((hb.set_ 19 (.bool false)).set_ 20 (.int .i64 0)).set_ 7 (.int .i64 0)) rfl rfl rfl
  have hk1 : Keep F w (((w.setCell ⟨b, 19, none⟩ (.bool false)).setCell ⟨b, 20, none⟩ (.int .i64 0)).setCell ⟨b, 7, none⟩ (.int .i64 0)) := (((Keep.refl F w).setCell (p := ⟨b, 19, none⟩) (fun _ => hH.fb) _).setCell (p := ⟨b, 20, none⟩) (fun _ => hH.fb) _).setCell (p := ⟨b, 7, none⟩) (fun _ => hH.fb) _
  go_enter Tryz.func95, Tryz.ntmps95
  go_wp2_with fail
  refine (rvCome_any b 8 _ _ _ m.p.inn m.valve vv _ h1.valveBlk rfl hfr).mono ?_
  rintro e w2 ⟨rfl, hv⟩
  have h2 := h1.onValve hv (.inl ⟨rfl, rfl⟩)
  go_wp2_with fail
  go_end0
  exact ⟨rfl, hH.toIs h2 (fun x hx => .inl hx) (hk1.andThen hv.2.1 (fun x _ hx => hx ▸ hH.fb))⟩
theorem r13flags_any (b o : Nat) (t : TypeId) (pre post : List Value) (N : Nat) (V : ValveM) (vv : Value) (hold : Bool) (w : World) (hb : Blk w b t (seg pre (rvCs N V vv) post)) (ho : pre.length = o) (hv : RVal w vv V.value) (hN : N ≤ 8) (hval : ∀ l, V.value = some l → l.length = N) :
    Calls Tryz.prog 48 #[.pointer (some ⟨b, o, none⟩), .bool hold] w fun e w' => e = .returned (.int .i64 (flagsM V hold)) ∧ Below w.heap.size w w' := by
  obtain ⟨fl, Hfl⟩ : ∃ x, Hid (x = flagsM V hold) := ⟨_, Lib.hid rfl⟩
  rw [← Hfl.out]
  have hout := rvOutput_any b o t pre post V vv w N hb ho hv hN hval
  have hreq := fun w' hb' => rvRequest_any b o t pre post N V vv w' hb' ho
  clear hv hval
  cases hon : V.on <;> cases hrq : V.request <;> cases hlt : (V.latched != 0) <;> cases hho : hold
  all_goals
    rw [hon] at hout
    rw [hrq] at hreq
    go_enter Tryz.func48, Tryz.ntmps48
    go_wp2_with fail
    refine hout.mono ?_
    rintro e w1 ⟨x, rfl, hownx, hb1⟩
    obtain ⟨Ax, cx, rfl⟩ := own_slice hownx
    have hB1 := hb.below hb1 hb.lt
    obtain ⟨c0, c1, c2, c3, c4, c5, c6⟩ := rv_cells hB1 ho
    clear hownx hout
    go_wp2_with fail
    refine (hreq w1 hB1).mono ?_
    rintro e w2 ⟨rfl, rfl⟩
    clear c0 c1 c2 c3 c5 c6 hreq
    go_wp2_with fail
    go_ret
    refine ⟨?_, hb1⟩
    have e1 : (V.latched = 0) = (¬ (V.latched != 0) = true) := by simp
    rw [Hfl.out]
    unfold flagsM
    simp only [hon, hrq, hho, e1, hlt]
    rfl
theorem rhTick_any (B b : Nat) (m : HostM) (F : Nat → Prop) (n : Int) (w : World) (h0 : RHIs B w b m F) (hi : m.Inv) (hlen : m.log.length < 1073741800) :
    Calls Tryz.prog 59 #[.pointer (some ⟨b, 0, none⟩), .int .i64 n] w fun e w' => e = .returned (.int .i64 (m.tick n).2) ∧ RHTo B w b (m.tick n).1 F w' := by
  have hI := h0
  obtain ⟨A, c, vv, val, hH⟩ := h0
  have hc := hH.blk.cell
  unfold rhCells at hc
  by_cases hn : n < 0
  · have e1 : m.tick n = (m, 2) := by unfold HostM.tick; rw [if_pos hn]
    rw [e1]
    clear e1
    go_enter Tryz.func59, Tryz.ntmps59
    go_wp2_with fail
    go_ret
    exact ⟨rfl, RHTo.refl hI⟩
  · have hl := hi.plaw
    have hw : m.p.watch ≤ 1048576 := by simp [ParM.lawful] at hl; omega
    have htk := rdogTicks_any b 6 _ _ _ m.p.watch m.since n w hH.dogBlk rfl hi.since.1 hi.since.2 hw (by omega)
    cases hr : (ticksM m.p.watch m.since n).2 with
    | false =>
      have e1 : m.tick n = ({ m with since := (ticksM m.p.watch m.since n).1 }, 0) := by unfold HostM.tick; rw [if_neg hn]; simp only [hr]; rfl
      rw [e1]
      rw [hr] at htk
      clear e1 hl
      go_enter Tryz.func59, Tryz.ntmps59
      go_wp2_with fail
      refine htk.mono ?_
      rintro e w1 ⟨rfl, hd1, hk1, hs1⟩
      have h1 : RHAt B w1 b { m with since := (ticksM m.p.watch m.since n).1 } F A c vv val := hH.upd hk1 hs1 hd1 rfl rfl rfl
      clear hs1
      go_wp2_with fail
      go_ret
      exact ⟨rfl, hH.toIs h1 (fun x hx => .inl hx) (hk1.mono (fun x _ e => e ▸ hH.fb))⟩
    | true =>
      have e1 : m.tick n = (({ m with since := (ticksM m.p.watch m.since n).1 } : HostM).trip 100, 0) := by unfold HostM.tick; rw [if_neg hn]; simp only [hr]; rfl
      rw [e1]
      rw [hr] at htk
      clear e1 hl
      go_enter Tryz.func59, Tryz.ntmps59
      go_wp2_with fail
      refine htk.mono ?_
      rintro e w1 ⟨rfl, hd1, hk1, hs1⟩
      have h1 : RHAt B w1 b { m with since := (ticksM m.p.watch m.since n).1 } F A c vv val := hH.upd hk1 hs1 hd1 rfl rfl rfl
      have t1 := hH.toIs h1 (fun x hx => .inl hx) (hk1.mono (fun x _ e => e ▸ hH.fb))
      clear hs1
      go_wp2_with fail
      refine (rhLatch_any B b { m with since := (ticksM m.p.watch m.since n).1 } _ 100 w1 (by decide) t1.is_ (by simp only; omega)).mono ?_
      rintro e w2 ⟨rfl, t2⟩
      go_wp2_with fail
      go_ret
      exact ⟨rfl, RHTo.trans hI t1 t2⟩
theorem ack_val (V : ValveM) : V.ack.value = V.value := by
  unfold ValveM.ack
  split <;> rfl
theorem rhAck_any (B b : Nat) (m : HostM) (F : Nat → Prop) (w : World) (h0 : RHIs B w b m F) :
    Calls Tryz.prog 60 #[.pointer (some ⟨b, 0, none⟩)] w fun e w' => e = .returned (.int .i64 m.ack.2) ∧ RHTo B w b m.ack.1 F w' := by
  obtain ⟨A, c, vv, val, hH⟩ := h0
  have hc := hH.blk.cell
  unfold rhCells at hc
  have e1 : m.ack = ({ m with valve := m.valve.ack }, if m.valve.request then 0 else 110) := by
    unfold HostM.ack ValveM.ack
    cases m.valve.request <;> rfl
  rw [e1]
  have hack := rvAck_any b 8 _ _ _ m.p.inn m.valve vv w hH.valveBlk rfl
  cases hr : m.valve.request with
  | false =>
    rw [hr] at hack
    go_enter Tryz.func60, Tryz.ntmps60
    go_wp2_with fail
    refine hack.mono ?_
    rintro e w1 ⟨rfl, hv⟩
    have h1 := hH.onValve hv (.inl ⟨rfl, ack_val _⟩)
    go_wp2_with fail
    go_ret
    exact ⟨rfl, hH.toIs h1 (fun x hx => .inl hx) (hv.2.1.mono (fun x _ e => e ▸ hH.fb))⟩
  | true =>
    rw [hr] at hack
    go_enter Tryz.func60, Tryz.ntmps60
    go_wp2_with fail
    refine hack.mono ?_
    rintro e w1 ⟨rfl, hv⟩
    have h1 := hH.onValve hv (.inl ⟨rfl, ack_val _⟩)
    go_wp2_with fail
    go_ret
    exact ⟨rfl, hH.toIs h1 (fun x hx => .inl hx) (hv.2.1.mono (fun x _ e => e ▸ hH.fb))⟩
theorem rhFrame_any (b : Nat) (m : HostM) (lg vv val : Value) (k s n f : Int) (data : List UInt8) (A : Option Addr) (len cap Br : Nat) (w : World) (hb : Blk w b 96 (rhCells m lg vv val)) (hp : m.p.Ok) (hlen : data.length = len) (hs : 0 ≤ s ∧ s < 4294967296) (hn : 0 ≤ n ∧ n < 4294967296) (hr : Reads w Br 1 A len (u8c data)) (hB : Br ≤ w.heap.size) :
    Calls Tryz.prog 46 #[.pointer (some ⟨b, 0, none⟩), .int .i64 k, .int .u32 s, .int .u32 n, .int .i64 f, .slice A len cap] w fun e w' => ∃ v, e = .returned v ∧ w'.ownsRow w.heap.size 5 1 v (m.frame k s n f data).length (u8c (m.frame k s n f data)) ∧ Below w.heap.size w w' := by
  subst hlen
  have hc := hb.cell
  unfold rhCells at hc
  have henc := r4encode_any ⟨k, m.p.code, s, n, f, data⟩ A cap Br w ⟨hp.code, hs, hn⟩ hr hB
  have hfr : m.frame k s n f data = (UnitM.mk k m.p.code s n f data).encode := rfl
  rw [hfr]
  unfold unitVal at henc
  simp only at henc
  generalize (UnitM.mk k m.p.code s n f data).encode = fr at *
  generalize (UnitM.mk k m.p.code s n f data).lawful = law at *
  clear hr
  go_enter Tryz.func46, Tryz.ntmps46
  go_wp2_with fail
  refine henc.mono ?_
  rintro e w1 ⟨v, rfl, hown, hb1⟩
  obtain ⟨Av, cv, rfl⟩ := own_slice hown
  go_wp2_with fail
  go_ret
  exact ⟨_, rfl, hown, hb1⟩
theorem rhWrite_any (B b : Nat) (m : HostM) (F : Nat → Prop) (A : Option Addr) (n c Br : Nat) (l : List UInt8) (hold : Bool) (w : World) (h0 : RHIs B w b m F) (hr : Reads w Br 1 A n (u8c l)) (hB : Br ≤ w.heap.size) (ho : m.p.out ≤ 8) :
    Calls Tryz.prog 17 #[.pointer (some ⟨b, 0, none⟩), .slice A n c, .bool hold] w fun e w' => e = .returned (.int .i64 (m.write l hold).2) ∧ RHTo B w b (m.write l hold).1 F w' := by
  have hI := h0
  obtain ⟨Al, cl, vv, val, hH⟩ := h0
  obtain ⟨i0, hi0, hz0, hz1, hz2⟩ := info_parts byte_info
  have hb := hH.blk
  have hc := hb.cell
  unfold rhCells at hc
  have hl : l.length = n := by have := hr.1; simpa [u8c] using this
  by_cases he : (n : Int) = m.p.out
  · have e1 : m.write l hold = ({ m with value := l, hold := hold }, 0) := by unfold HostM.write; rw [hl, if_neg (by simpa using he)]
    rw [e1]
    have g1 : ((n : Int) != m.p.out) = false := by simpa using he
    have hn : n ≤ 1000000 := by omega
    have Hl := Lib.hid hl
    clear e1 hl he
    go_enter Tryz.func17, Tryz.ntmps17
    go_wp2_with (at_builtin; refine wpList_append_any _ rfl (.tmp 16) (.tmp 17) _ rfl w.heap.size 5 i0 _ 1 1 Tryz.underlying22 hi0 hz0 hz1 hz2 rfl (by omega) (.slice (some ⟨w.heap.size, 0, none⟩) 0 0) 0 [] rfl (World.ownsRow_made w #[] 0 (Nat.le_refl _) (by unfold maxLen; omega) rfl) Br A n c (u8c l) rfl (hr.alloc hB _) (u8c_one l) (by unfold maxLen; omega) (by omega) (by simp) ?_; intro v1 w1 hown1 hg1 hat1; rw [Nat.zero_add, List.nil_append] at hown1; obtain ⟨A1, c1, rfl⟩ := own_slice hown1; have hb1 : Below w.heap.size w w1 := ((Below.refl _ _).alloc (Nat.le_refl _) _).grown hg1 (by simp) (fun k hk => by simp [Value.ownBlock] at hk; omega); have h1 := hH.below hb1; have hbk := h1.blk; have hc1 := hbk.cell; have hf1 := hbk.frozen; unfold rhCells at hc1)
    go_ret
    have hlt1 := hown1.lt
    have hk : Keep (fun x => x = b) w1 ((w1.setCell ⟨b, 21, none⟩ (.slice A1 n c1)).setCell ⟨b, 22, none⟩ (.bool hold)) := ((Keep.refl (fun x => x = b) w1).setCell (p := ⟨b, 21, none⟩) (fun _ => rfl) _).setCell (p := ⟨b, 22, none⟩) (fun _ => rfl) _
    have hz : ((w1.setCell ⟨b, 21, none⟩ (.slice A1 n c1)).setCell ⟨b, 22, none⟩ (.bool hold)).heap.size = w1.heap.size := by simp [World.setCell]
    have hbl := (hH.lo b hH.fb).2
    have h4 : RHAt B ((w1.setCell ⟨b, 21, none⟩ (.slice A1 n c1)).setCell ⟨b, 22, none⟩ (.bool hold)) b { m with value := l, hold := hold } (grow F w ((w1.setCell ⟨b, 21, none⟩ (.slice A1 n c1)).setCell ⟨b, 22, none⟩ (.bool hold))) Al cl vv (.slice A1 n c1) := {
      blk := by simpa [rhCells] using (hbk.set_ 21 (.slice A1 n c1)).set_ 22 (.bool hold)
      log := ownsRow_keep h1.log hk (fun x hx e => own_ne h1.log h1.blk (by decide) (e ▸ hx))
      vval := h1.vval.keep hk (fun x hx e => h1.vval.ne h1.blk (by decide) (e ▸ hx))
      value := by
        simp only
        rw [Hl.out]
        exact own_base (ownsRow_keep hown1 hk (fun x hx e => by have := (hlt1 x hx).1; omega)) (Nat.zero_le _)
      fb := .inl hH.fb
      fl := fun x hx => .inl (hH.fl x hx)
      fv := fun x hx => .inl (hH.fv x hx)
      fx := fun x hx => .inr ⟨(hlt1 x hx).1, by rw [hz]; exact (hlt1 x hx).2⟩
      lo := grow_fb hH.lo hH.Ble (by rw [hz]; exact hb1.size) }
    exact ⟨rfl, hH.toIs h4 (fun x hx => hx) ((Keep.of_below hb1).andThen hk (fun x _ e => e ▸ hH.fb))⟩
  · have e1 : m.write l hold = (m, 45) := by unfold HostM.write; rw [hl, if_pos he]
    rw [e1]
    have g1 : ((n : Int) != m.p.out) = true := by simpa using he
    clear e1
    go_enter Tryz.func17, Tryz.ntmps17
    go_wp2_with fail
    go_ret
    exact ⟨rfl, RHTo.refl hI⟩
end Go.Proofs.YtfoldlbnkfnenaaGreat
/- unit.FromDevice; a host is offered a session. -/
namespace Go.Proofs.YtfoldlbnkfnenaaGreat
open Go.RowKit
set_option maxHeartbeats 10000000
set_option maxRecDepth 100000

theorem unitFromDevice_any (k : Int) (w : World) : Calls Tryz.prog 89 #[.int .i64 k] w fun e w' => e = .returned (.bool (isDev k)) ∧ w' = w := by
  by_cases h1 : 17 ≤ k
  · go_enter Tryz.func89, Tryz.ntmps89
    go_wp2_with fail
    go_ret
    exact ⟨by simp [isDev, h1], rfl⟩
  · go_enter Tryz.func89, Tryz.ntmps89
    go_wp2_with fail
    go_ret
    exact ⟨by simp [isDev]; omega, rfl⟩
theorem hostS6 {w : World} {a d v g e0 : Nat} {m : HostM} {val : Value} {x0 x1 x2 x3 x4 x5 : Value} (h : Blk w a 88 (hostCells m d v g val)) (hu : Blk w e0 60 #[x0, x1, x2, x3, x4, x5]) :
    w.cell? ⟨a, 0, none⟩ = some (.int .u32 m.p.code) ∧ w.cell? ⟨a, 1, none⟩ = some (.int .i64 m.p.out) ∧ w.cell? ⟨a, 2, none⟩ = some (.int .i64 m.p.inn) ∧ w.cell? ⟨a, 3, none⟩ = some (.int .i64 m.p.watch) ∧ w.cell? ⟨a, 4, none⟩ = some (.int .u32 m.p.count) ∧ w.cell? ⟨e0, 5, none⟩ = some x5 :=
  ⟨(h.cell 0).trans rfl, (h.cell 1).trans rfl, (h.cell 2).trans rfl, (h.cell 3).trans rfl, (h.cell 4).trans rfl, (hu.cell 5).trans rfl⟩
theorem hostOffered_any (B a : Nat) (m : HostM) (F : Nat → Prop) (u : UnitM) (A : Option Addr) (c Br : Nat) (w : World) (hH : HostIs B w a m F) (hi : m.Inv) (hs1 : m.state = 1) (ho : u.Ok) (hr : Reads w Br 1 A u.data.length (u8c u.data)) (hB : Br ≤ w.heap.size) (hd : u.data.length ≤ 1000) :
    Calls Tryz.prog 90 #[.pointer (some ⟨a, 0, none⟩), unitVal u (.slice A u.data.length c)] w fun e w' => e = .returned (.int .i64 (m.take u).2) ∧ HostTo B w a (m.take u).1 F w' := by
  have h0 := hH
  obtain ⟨d, v, g, val, FV, FL, hH⟩ := hH
  obtain ⟨kind, code, session, number, flags, data⟩ := u
  simp only at *
  have h1 := hH.keepS (S := fun _ => False) ((Keep.refl _ w).alloc (.cells #[.int .i64 kind, .int .u32 code, .int .u32 session, .int .u32 number, .int .i64 flags, .slice A data.length c] 60)) (fun _ _ h => h)
  have hU := Blk.new w 60 #[.int .i64 kind, .int .u32 code, .int .u32 session, .int .u32 number, .int .i64 flags, .slice A data.length c]
  have hb1 : Below w.heap.size w (w.alloc (.cells #[.int .i64 kind, .int .u32 code, .int .u32 session, .int .u32 number, .int .i64 flags, .slice A data.length c] 60)) := (Below.refl _ _).alloc (Nat.le_refl _) _
  have toSame : ∀ w', Below w.heap.size w w' → HostTo B w a m F w' := fun w' hb => hH.toIs (hH.keepS (S := fun _ => False) (Keep.of_below hb) (fun _ _ h => h)) (fun x hx => .inl hx) (Keep.of_below hb)
  have hc := h1.blk.cell
  unfold hostCells at hc
  unfold unitVal
  simp only
  by_cases hk : kind = 17
  · by_cases hss : session ≤ m.session
    · have e1 : m.take ⟨kind, code, session, number, flags, data⟩ = (m, 130) := by unfold HostM.take; rw [if_pos hs1, if_pos (.inr hss)]
      rw [e1]
      clear e1
      subst hk
      go_enter Tryz.func90, Tryz.ntmps90
      go_wp2_with fail
      go_big_quiet (fail)
      go_wp2_with fail
      go_ret
      exact ⟨rfl, toSame _ (belowN hb1 _)⟩
    · have hnk : ¬ (kind ≠ 17 ∨ session ≤ m.session) := by simp [hk]; omega
      have hmat := fun w hr hB => paramMatch_any m.p A data.length c Br data w hi.pok hi.plaw hr hB hd
      unfold parVal at hmat
      obtain ⟨r, Hr⟩ : ∃ r, Hid (r = m.take ⟨kind, code, session, number, flags, data⟩) := ⟨_, Lib.hid rfl⟩
      rw [← Hr.out]
      have Hr2 : Hid (r = if data ≠ m.p.sign then (m, 91) else (({ m with session := session, state := 2 } : HostM).alive, 0)) := Lib.hid (by rw [Hr.out]; unfold HostM.take; rw [if_pos hs1, if_neg hnk])
      clear Hr hnk
      subst hk
      go_enter Tryz.func90, Tryz.ntmps90
      go_wp2_with fail
      go_big_quiet (fail)
      have hA1 := h1.keepS (S := fun _ => False) ((Keep.refl _ _).drewN nq) (fun _ _ h => h)
      have hU1 := hU.drewN nq
      have hb2 := belowN hb1 nq
      have hea : w.heap.size ≠ a := by have := (hH.fb a hH.fa).2; omega
      obtain ⟨e0, He0⟩ : ∃ e, Hid (e = w.heap.size) := ⟨_, Lib.hid rfl⟩
      rw [← He0.out] at hU1 hea ⊢
      generalize (w.alloc (.cells #[.int .i64 17, .int .u32 code, .int .u32 session, .int .u32 number, .int .i64 flags, .slice A data.length c] 60)).drewN nq = W1 at *
      clear hc h1 hU hb1
      have hr1 := hr.below (hb2.mono hB)
      have hc := hA1.blk.cell
      unfold hostCells at hc
      have huc := hU1.cell
      replace hA1 := hA1.drew
      replace hU1 := hU1.drew
      replace hb2 := hb2.drew
      replace hr1 := hr1.drew
      have hul := hU1.lt
      have hBr : Br ≤ W1.drew.heap.size := by have := hb2.size; omega
      have hbA := hA1.blk
      go_wp2_with fail
      go_region_held3 (fun w' => w'.cell? ⟨a, 0, none⟩ = some (.int .u32 m.p.code) ∧ w'.cell? ⟨a, 1, none⟩ = some (.int .i64 m.p.out) ∧ w'.cell? ⟨a, 2, none⟩ = some (.int .i64 m.p.inn) ∧ w'.cell? ⟨a, 3, none⟩ = some (.int .i64 m.p.watch) ∧ w'.cell? ⟨a, 4, none⟩ = some (.int .u32 m.p.count) ∧ w'.cell? ⟨e0, 5, none⟩ = some (.slice A data.length c)) (with_reducible (first | exact hostS6 hbA hU1)) (first
        | (go_at_call 120; refine (hmat _ hr1 hBr).mono ?_; rintro e W2 ⟨rfl, hbm⟩; replace hA1 := hA1.keepS (S := fun _ => False) (Keep.of_below hbm) (fun _ _ h => h); replace hbA := hA1.blk; replace hU1 := hU1.below hbm hul; replace hb2 := hb2.trans (hbm.mono hb2.size)))
      have hwe : w.heap.size ≤ e0 := by have := He0.out; omega
      have hkF : Keep F w W2 := Keep.of_below hb2
      have huc := hU1.cell
      have hc2 := hbA.cell
      have hf2 := hbA.frozen
      unfold hostCells at hc2
      by_cases hds : data = m.p.sign
      · have e1 : r = (({ m with session := session, state := 2 } : HostM).alive, 0) := by rw [Hr2.out, if_neg (by simpa using hds)]
        have hdec : decide (data = m.p.sign) = true := by simpa using hds
        subst e1
        rw [hdec]
        clear hdec hds Hr2 hr hr1 hmat
        have hA3 : HostAt B ((W2.setCell ⟨a, 9, none⟩ (.int .u32 session)).setCell ⟨a, 8, none⟩ (.int .i64 2)) a { m with session := session, state := 2 } F d v g val FV FL :=
          hA1.upd (((Keep.refl (fun x => x = a) W2).setCell (p := ⟨a, 9, none⟩) (fun _ => rfl) _).setCell (p := ⟨a, 8, none⟩) (fun _ => rfl) _) (by simp [World.setCell]) (by simpa [hostCells] using (hbA.set_ 9 (.int .u32 session)).set_ 8 (.int .i64 2)) rfl rfl rfl rfl rfl
        have hk3 : Keep F w ((W2.setCell ⟨a, 9, none⟩ (.int .u32 session)).setCell ⟨a, 8, none⟩ (.int .i64 2)) := (hkF.setCell (p := ⟨a, 9, none⟩) (fun _ => hH.fa) _).setCell (p := ⟨a, 8, none⟩) (fun _ => hH.fa) _
        have t3 := hH.toIs hA3 (fun x hx => .inl hx) hk3
        go_wp2_with fail
        refine (hostAlive_any B a { m with session := session, state := 2 } _ _ t3.is_).mono ?_
        rintro e W4 ⟨rfl, t4⟩
        go_wp2_with fail
        go_ret
        exact ⟨rfl, HostTo.trans h0 t3 t4⟩
      · have e1 : r = (m, 91) := by rw [Hr2.out, if_pos (by simpa using hds)]
        have hdec : decide (data = m.p.sign) = false := by simpa using hds
        subst e1
        rw [hdec]
        clear hdec hds Hr2 hr hr1 hmat
        go_wp2_with fail
        go_ret
        exact ⟨rfl, toSame _ hb2⟩
  · have e1 : m.take ⟨kind, code, session, number, flags, data⟩ = (m, 130) := by unfold HostM.take; rw [if_pos hs1, if_pos (.inl hk)]
    rw [e1]
    have g1 : (kind != 17) = true := by simpa using hk
    clear e1
    go_enter Tryz.func90, Tryz.ntmps90
    go_wp2_with fail
    go_big_quiet (fail)
    go_wp2_with fail
    go_ret
    exact ⟨rfl, toSame _ (belowN hb1 _)⟩
end Go.Proofs.YtfoldlbnkfnenaaGreat
/- A host's Reset. -/
namespace Go.Proofs.YtfoldlbnkfnenaaGreat
open Go.RowKit
set_option maxHeartbeats 10000000
set_option maxRecDepth 100000

theorem hostReset_any (B a g : Nat) (p : ParM) (L : List Rec) (FL : Nat → Prop) (x5 x6 x8 x9 x10 x11 x12 x13 x14 x15 : Value) (w : World) (hp : p.lawful = true)
    (hb : Blk w a 88 #[.int .u32 p.code, .int .i64 p.out, .int .i64 p.inn, .int .i64 p.watch, .int .u32 p.count, x5, x6, .pointer (some ⟨g, 0, none⟩), x8, x9, x10, x11, x12, x13, x14, x15])
    (hl : DiagIs w g L FL) (hla : ¬ FL a) (hfb : ∀ x, (x = a ∨ FL x) → B ≤ x ∧ x < w.heap.size) :
    Calls Tryz.prog 36 #[.pointer (some ⟨a, 0, none⟩)] w fun e w' => e = .returned (.int .i64 0) ∧ HostIs B w' a { p := p, log := L, value := List.replicate p.out.toNat 0 } (grow (fun x => x = a ∨ FL x) w w') ∧ Keep (fun x => x = a) w w' := by
  have hlaw := hp
  simp [ParM.lawful] at hlaw
  obtain ⟨N, hN⟩ : ∃ N : Nat, p.out = (N : Int) := ⟨p.out.toNat, by omega⟩
  have hN8 : N ≤ 8 := by omega
  have HN := Lib.hid hN
  have hd := fun w => dogNew_any p.watch w (by omega) (by omega)
  have hv := fun w => valveNew_any p.inn w (by omega) (by omega)
  have hmk := run_make_row' (P := Tryz.prog) 22 5 (.int .u8 0) 1 Tryz.underlying22 byte_info rfl .i64 .i64 N (by omega) (by omega)
  rw [hN] at hb
  clear hlaw hN
  have hc := hb.cell
  go_enter Tryz.func36, Tryz.ntmps36
  go_wp2_with fail
  refine (hd _).mono ?_
  rintro e W1 ⟨rfl, hW⟩
  have hb1 : Blk W1 a 88 _ := hW ▸ hb.alloc _
  have hd1 : DogIs W1 w.heap.size p.watch 0 := hW ▸ Blk.new w _ _
  have hbe1 : Below w.heap.size w W1 := hW ▸ (Below.refl _ w).alloc (Nat.le_refl _) _
  have hz1 : Hid (W1.heap.size = w.heap.size + 1) := Lib.hid (by rw [hW]; simp)
  obtain ⟨d0, Hd0⟩ : ∃ e, Hid (e = w.heap.size) := ⟨_, Lib.hid rfl⟩
  rw [← Hd0.out] at hd1 ⊢
  clear hW hc
  have hc := hb1.cell
  have hf := hb1.frozen
  go_wp2_with fail
  have hb2 : Blk (W1.setCell ⟨a, 5, none⟩ (.pointer (some ⟨d0, 0, none⟩))) a 88 #[.int .u32 p.code, .int .i64 N, .int .i64 p.inn, .int .i64 p.watch, .int .u32 p.count, .pointer (some ⟨d0, 0, none⟩), x6, .pointer (some ⟨g, 0, none⟩), x8, x9, x10, x11, x12, x13, x14, x15] := by simpa using hb1.set_ 5 (.pointer (some ⟨d0, 0, none⟩))
  refine (hv _).mono ?_
  rintro e W2 ⟨v, rfl, hv2, hv3, hv4, hbe2⟩
  have hb3 := hb2.below hbe2 hb2.lt
  clear hc hf
  have hc := hb3.cell
  have hf := hb3.frozen
  have hb4 : Blk (W2.setCell ⟨a, 6, none⟩ (.pointer (some ⟨v, 0, none⟩))) a 88 #[.int .u32 p.code, .int .i64 N, .int .i64 p.inn, .int .i64 p.watch, .int .u32 p.count, .pointer (some ⟨d0, 0, none⟩), .pointer (some ⟨v, 0, none⟩), .pointer (some ⟨g, 0, none⟩), x8, x9, x10, x11, x12, x13, x14, x15] := by simpa using hb3.set_ 6 (.pointer (some ⟨v, 0, none⟩))
  have hcA := fun o => (hb4.alloc o).cell
  have hfA := fun o => (hb4.alloc o).frozen
  go_wp2_with fail
  have hsz3 : (W2.setCell ⟨a, 6, none⟩ (.pointer (some ⟨v, 0, none⟩))).heap.size = W2.heap.size := by simp [World.setCell]
  have hmade := own_made (W2.setCell ⟨a, 6, none⟩ (.pointer (some ⟨v, 0, none⟩))) N (by omega)
  rw [hsz3] at hmade
  have hkB : Keep (fun x => x = a) W2 ((((((((((W2.setCell ⟨a, 6, none⟩ (.pointer (some ⟨v, 0, none⟩))).alloc (.cells (madeCells #[.int .u8 0] N) 5)).setCell ⟨a, 8, none⟩ (.int .i64 1)).setCell ⟨a, 9, none⟩ (.int .u32 0)).setCell ⟨a, 10, none⟩ (.int .u32 0)).setCell ⟨a, 11, none⟩ (.int .u32 0)).setCell ⟨a, 12, none⟩ (.bool false)).setCell ⟨a, 13, none⟩ (.int .i64 0)).setCell ⟨a, 14, none⟩ (.slice (some ⟨W2.heap.size, 0, none⟩) N N)).setCell ⟨a, 15, none⟩ (.bool false)) := (((((((((((Keep.refl (fun x => x = a) W2).setCell (p := ⟨a, 6, none⟩) (fun _ => rfl) (.pointer (some ⟨v, 0, none⟩))).alloc (.cells (madeCells #[.int .u8 0] N) 5)).setCell (p := ⟨a, 8, none⟩) (fun _ => rfl) (.int .i64 1)).setCell (p := ⟨a, 9, none⟩) (fun _ => rfl) (.int .u32 0)).setCell (p := ⟨a, 10, none⟩) (fun _ => rfl) (.int .u32 0)).setCell (p := ⟨a, 11, none⟩) (fun _ => rfl) (.int .u32 0)).setCell (p := ⟨a, 12, none⟩) (fun _ => rfl) (.bool false)).setCell (p := ⟨a, 13, none⟩) (fun _ => rfl) (.int .i64 0)).setCell (p := ⟨a, 14, none⟩) (fun _ => rfl) (.slice (some ⟨W2.heap.size, 0, none⟩) N N)).setCell (p := ⟨a, 15, none⟩) (fun _ => rfl) (.bool false))
  have hkM : Keep (fun x => x = a) ((W2.setCell ⟨a, 6, none⟩ (.pointer (some ⟨v, 0, none⟩))).alloc (.cells (madeCells #[.int .u8 0] N) 5)) ((((((((((W2.setCell ⟨a, 6, none⟩ (.pointer (some ⟨v, 0, none⟩))).alloc (.cells (madeCells #[.int .u8 0] N) 5)).setCell ⟨a, 8, none⟩ (.int .i64 1)).setCell ⟨a, 9, none⟩ (.int .u32 0)).setCell ⟨a, 10, none⟩ (.int .u32 0)).setCell ⟨a, 11, none⟩ (.int .u32 0)).setCell ⟨a, 12, none⟩ (.bool false)).setCell ⟨a, 13, none⟩ (.int .i64 0)).setCell ⟨a, 14, none⟩ (.slice (some ⟨W2.heap.size, 0, none⟩) N N)).setCell ⟨a, 15, none⟩ (.bool false)) := (((((((((Keep.refl (fun x => x = a) _).setCell (p := ⟨a, 8, none⟩) (fun _ => rfl) (.int .i64 1)).setCell (p := ⟨a, 9, none⟩) (fun _ => rfl) (.int .u32 0)).setCell (p := ⟨a, 10, none⟩) (fun _ => rfl) (.int .u32 0)).setCell (p := ⟨a, 11, none⟩) (fun _ => rfl) (.int .u32 0)).setCell (p := ⟨a, 12, none⟩) (fun _ => rfl) (.bool false)).setCell (p := ⟨a, 13, none⟩) (fun _ => rfl) (.int .i64 0)).setCell (p := ⟨a, 14, none⟩) (fun _ => rfl) (.slice (some ⟨W2.heap.size, 0, none⟩) N N)).setCell (p := ⟨a, 15, none⟩) (fun _ => rfl) (.bool false))
  have hblk : Blk ((((((((((W2.setCell ⟨a, 6, none⟩ (.pointer (some ⟨v, 0, none⟩))).alloc (.cells (madeCells #[.int .u8 0] N) 5)).setCell ⟨a, 8, none⟩ (.int .i64 1)).setCell ⟨a, 9, none⟩ (.int .u32 0)).setCell ⟨a, 10, none⟩ (.int .u32 0)).setCell ⟨a, 11, none⟩ (.int .u32 0)).setCell ⟨a, 12, none⟩ (.bool false)).setCell ⟨a, 13, none⟩ (.int .i64 0)).setCell ⟨a, 14, none⟩ (.slice (some ⟨W2.heap.size, 0, none⟩) N N)).setCell ⟨a, 15, none⟩ (.bool false)) a 88 (hostCells { p := p, log := L, value := List.replicate p.out.toNat 0 } d0 v g (.slice (some ⟨W2.heap.size, 0, none⟩) N N)) := by
    have := (((((((((hb4.alloc (.cells (madeCells #[.int .u8 0] N) 5)).set_ 8 (.int .i64 1)).set_ 9 (.int .u32 0)).set_ 10 (.int .u32 0)).set_ 11 (.int .u32 0)).set_ 12 (.bool false)).set_ 13 (.int .i64 0)).set_ 14 (.slice (some ⟨W2.heap.size, 0, none⟩) N N)).set_ 15 (.bool false))
    simpa [hostCells, HN.out] using this
  have hz5 : ((((((((((W2.setCell ⟨a, 6, none⟩ (.pointer (some ⟨v, 0, none⟩))).alloc (.cells (madeCells #[.int .u8 0] N) 5)).setCell ⟨a, 8, none⟩ (.int .i64 1)).setCell ⟨a, 9, none⟩ (.int .u32 0)).setCell ⟨a, 10, none⟩ (.int .u32 0)).setCell ⟨a, 11, none⟩ (.int .u32 0)).setCell ⟨a, 12, none⟩ (.bool false)).setCell ⟨a, 13, none⟩ (.int .i64 0)).setCell ⟨a, 14, none⟩ (.slice (some ⟨W2.heap.size, 0, none⟩) N N)).setCell ⟨a, 15, none⟩ (.bool false)).heap.size = W2.heap.size + 1 := by simp [World.setCell]
  generalize ((((((((((W2.setCell ⟨a, 6, none⟩ (.pointer (some ⟨v, 0, none⟩))).alloc (.cells (madeCells #[.int .u8 0] N) 5)).setCell ⟨a, 8, none⟩ (.int .i64 1)).setCell ⟨a, 9, none⟩ (.int .u32 0)).setCell ⟨a, 10, none⟩ (.int .u32 0)).setCell ⟨a, 11, none⟩ (.int .u32 0)).setCell ⟨a, 12, none⟩ (.bool false)).setCell ⟨a, 13, none⟩ (.int .i64 0)).setCell ⟨a, 14, none⟩ (.slice (some ⟨W2.heap.size, 0, none⟩) N N)).setCell ⟨a, 15, none⟩ (.bool false)) = W5 at *
  go_ret
  have ha := (hfb a (.inl rfl)).2
  have hs1 := hz1.out
  have hs2 := hbe2.size
  simp [World.setCell] at hs2
  have hkA : Keep (fun x => x = a) W1 W5 := (((Keep.refl (fun x => x = a) W1).setCell (p := ⟨a, 5, none⟩) (fun _ => rfl) _).andThen (S' := fun _ => False) (Keep.of_below hbe2) (fun _ _ h => h.elim)).andThen hkB (fun _ _ h => h)
  have hk : Keep (fun x => x = a) w W5 := (Keep.of_below hbe1).andThen hkA (fun _ _ h => h)
  have hd0 := Hd0.out
  have hsz1 : (W1.setCell ⟨a, 5, none⟩ (.pointer (some ⟨d0, 0, none⟩))).heap.size = W1.heap.size := by simp [World.setCell]
  rw [hsz1] at hv2 hv3
  have hgs : ∀ x, w.heap.size ≤ x → x < W5.heap.size → grow (fun x => x = a ∨ FL x) w W5 x := fun x h1 h2 => .inr ⟨h1, h2⟩
  refine ⟨rfl, ⟨d0, v, g, .slice (some ⟨W2.heap.size, 0, none⟩) N N, (fun x => W1.heap.size ≤ x ∧ x < W2.heap.size), FL, {
    blk := hblk
    dog := Blk.keep hd1 hkA (by omega)
    valve := hv2.keep hkB (fun x hx e => by omega) (fun _ h => h)
    log := hl.keep hk (fun x hx e => hla (e ▸ hx)) (fun _ h => h)
    value := by
      have := own_base (ownsRow_keep hmade hkM (fun x hx e => by simp [Value.ownBlock] at hx; omega)) (Nat.zero_le _)
      simpa [HN.out] using this
    fa := .inl (.inl rfl)
    fd := hgs _ (by omega) (by omega)
    fV := fun x hx => hgs _ (by omega) (by omega)
    fL := fun x hx => .inl (.inr hx)
    fx := fun x hx => by
      simp [Value.ownBlock] at hx
      exact hgs _ (by omega) (by omega)
    fb := grow_fb hfb (by have := hfb a (.inl rfl); omega) hk.size
    va := ⟨by omega, by omega⟩
    la := ⟨hla, fun h => by have := (hfb d0 (.inr h)).2; omega⟩
    vl := fun x hx h => by have := (hfb x (.inr h)).2; omega
    xv := fun x hx => by
      simp [Value.ownBlock] at hx
      exact ⟨by omega, fun h => (by have := (hfb x (.inr h)).2; omega), by omega, by omega⟩ }⟩, hk⟩
end Go.Proofs.YtfoldlbnkfnenaaGreat
/- host.New. -/
namespace Go.Proofs.YtfoldlbnkfnenaaGreat
open Go.RowKit
set_option maxHeartbeats 10000000
set_option maxRecDepth 100000

theorem hostS7 {w : World} {e0 : Nat} {t : TypeId} {x0 x1 x2 x3 x4 : Value} (h : Blk w e0 t #[x0, x1, x2, x3, x4]) :
    w.cell? ⟨e0, 0, none⟩ = some x0 ∧ w.cell? ⟨e0, 1, none⟩ = some x1 ∧ w.cell? ⟨e0, 2, none⟩ = some x2 ∧ w.cell? ⟨e0, 3, none⟩ = some x3 ∧ w.cell? ⟨e0, 4, none⟩ = some x4 :=
  ⟨(h.cell 0).trans rfl, (h.cell 1).trans rfl, (h.cell 2).trans rfl, (h.cell 3).trans rfl, (h.cell 4).trans rfl⟩
theorem hostNew_bad (p : ParM) (w : World) (hp : p.lawful = false) : Calls Tryz.prog 12 #[parVal p] w fun e w' => e = .returned (.tuple #[.pointer none, .int .i64 90]) ∧ Below w.heap.size w w' := by
  have hchk := paramCheck_any p
  rw [hp] at hchk
  unfold parVal at *
  go_enter Tryz.func12, Tryz.ntmps12
  go_wp2_with fail
  refine (hchk _).mono ?_
  rintro e w1 ⟨rfl, hb1⟩
  go_wp2_with fail
  refine bodyPost_ret (v := .tuple #[.pointer none, .int .i64 90]) (by simp [results, Tryz.results12, go_sem]) rfl ⟨rfl, ?_⟩
  exact ((Below.refl _ _).alloc (Nat.le_refl _) _).trans (hb1.mono (by simp))
theorem hostNew_any (p : ParM) (w : World) (hp : p.lawful = true) : Calls Tryz.prog 12 #[parVal p] w fun e w' => ∃ a F, e = .returned (.tuple #[.pointer (some ⟨a, 0, none⟩), .int .i64 0]) ∧ HostIs w.heap.size w' a (HostM.new p) F ∧ Below w.heap.size w w' := by
  have hchk := paramCheck_any p
  rw [hp] at hchk
  unfold parVal at *
  go_enter Tryz.func12, Tryz.ntmps12
  go_wp2_with fail
  refine (hchk _).mono ?_
  rintro e w1 ⟨rfl, hb1⟩
  have hb1' : Below w.heap.size w w1 := ((Below.refl _ w).alloc (Nat.le_refl _) _).trans (hb1.mono (by simp))
  have hP := (Blk.new w 30 #[.int .u32 p.code, .int .i64 p.out, .int .i64 p.inn, .int .i64 p.watch, .int .u32 p.count]).below hb1 (by simp)
  have hc := hP.cell
  have hf := hP.frozen
  clear hb1 hchk
  go_wp2_with fail
  replace hP := hP.drew
  have hbd := hb1'.drew
  have hlt := hP.lt
  go_region_held3 (fun w' => w'.cell? ⟨w.heap.size, 0, none⟩ = some (.int .u32 p.code) ∧ w'.cell? ⟨w.heap.size, 1, none⟩ = some (.int .i64 p.out) ∧ w'.cell? ⟨w.heap.size, 2, none⟩ = some (.int .i64 p.inn) ∧ w'.cell? ⟨w.heap.size, 3, none⟩ = some (.int .i64 p.watch) ∧ w'.cell? ⟨w.heap.size, 4, none⟩ = some (.int .u32 p.count)) (with_reducible (first | exact hostS7 hP | exact hostS7 (hP.alloc _))) (first
    | (go_at_call 39; refine (diagNew_any _).mono ?_; rintro e W ⟨g, rfl, hD, hbn⟩; replace hP := hP.below hbn hlt; have hs := hbn.size; replace hbd := hbd.trans (hbn.mono hbd.size)))
  go_wp2_with fail
  have hbw := hbd.size
  have hb1s := hb1'.size
  have hw1s : w1.drew.heap.size = w1.heap.size := rfl
  have hD2 := hD.keep (F' := fun x => w1.drew.heap.size ≤ x ∧ x < W.heap.size) (S := fun _ => False) ((Keep.refl _ W).alloc (.cells #[.int .u32 p.code, .int .i64 p.out, .int .i64 p.inn, .int .i64 p.watch, .int .u32 p.count, .pointer none, .pointer none, .pointer (some ⟨g, 0, none⟩), .int .i64 0, .int .u32 0, .int .u32 0, .int .u32 0, .bool false, .int .i64 0, .slice none 0 0, .bool false] 88)) (fun _ _ h => h) (fun _ h => h)
  have hbe := hbd.alloc hbd.size (.cells #[.int .u32 p.code, .int .i64 p.out, .int .i64 p.inn, .int .i64 p.watch, .int .u32 p.count, .pointer none, .pointer none, .pointer (some ⟨g, 0, none⟩), .int .i64 0, .int .u32 0, .int .u32 0, .int .u32 0, .bool false, .int .i64 0, .slice none 0 0, .bool false] 88)
  refine (hostReset_any w.heap.size W.heap.size g p [] _ _ _ _ _ _ _ _ _ _ _ _ hp (Blk.new W _ _) hD2 (by simp) (fun x hx => by simp; omega)).mono ?_
  rintro e W3 ⟨rfl, hI, hk⟩
  go_wp2_with fail
  refine bodyPost_ret (v := .tuple #[.pointer (some ⟨W.heap.size, 0, none⟩), .int .i64 0]) (by simp [results, Tryz.results12, go_sem]) rfl ⟨_, _, rfl, hI, ?_⟩
  exact hbe.trans (hk.below hbe.size (fun b hb => by rw [hb]; exact hbd.size))
theorem hostResetTo_any (B a : Nat) (m : HostM) (F : Nat → Prop) (w : World) (hH : HostIs B w a m F) (hp : m.p.lawful = true) :
    Calls Tryz.prog 36 #[.pointer (some ⟨a, 0, none⟩)] w fun e w' => e = .returned (.int .i64 0) ∧ HostTo B w a m.reset F w' := by
  obtain ⟨d, v, g, val, FV, FL, hH⟩ := hH
  refine (hostReset_any B a g m.p m.log FL _ _ _ _ _ _ _ _ _ _ w hp hH.blk hH.log hH.la.1 (fun x hx => hx.elim (fun e => e ▸ hH.fb a hH.fa) (fun hx => hH.fb x (hH.fL x hx)))).mono ?_
  rintro e w' ⟨rfl, hI, hk⟩
  obtain ⟨d', v', g', val', FV', FL', h'⟩ := hI
  refine ⟨rfl, ⟨d', v', g', val', FV', FL', h'.mono (fun x hx => ?_) (grow_fb hH.fb hH.Ble hk.size)⟩, hk.mono (fun x _ e => e ▸ hH.fa)⟩
  rcases hx with (hx | hx) | hx
  · exact .inl (hx ▸ hH.fa)
  · exact .inl (hH.fL x hx)
  · exact .inr hx
end Go.Proofs.YtfoldlbnkfnenaaGreat
/- A host's Receive, over what its read does. -/
namespace Go.Proofs.YtfoldlbnkfnenaaGreat
open Go.RowKit
set_option maxHeartbeats 10000000
set_option maxRecDepth 100000

theorem hostReceive_of (B a : Nat) (m : HostM) (F : Nat → Prop) (A : Option Addr) (n c : Nat) (l : List UInt8) (w : World) (h0 : HostIs B w a m F) (hlen : (m.read l).1.log.length < 1073741823)
    (hread : Calls Tryz.prog 49 #[.pointer (some ⟨a, 0, none⟩), .slice A n c] w fun e w' => e = .returned (.int .i64 (m.read l).2) ∧ HostTo B w a (m.read l).1 F w') :
    Calls Tryz.prog 22 #[.pointer (some ⟨a, 0, none⟩), .slice A n c] w fun e w' => e = .returned (.int .i64 (m.receive l).2) ∧ HostTo B w a (m.receive l).1 F w' := by
  obtain ⟨q, Hq⟩ : ∃ q, Hid (q = m.receive l) := ⟨_, Lib.hid rfl⟩
  rw [← Hq.out]
  have Hq2 : Hid (q = if (m.read l).2 = 0 then m.read l else ({ (m.read l).1 with log := noteM (m.read l).1.log (m.read l).2 (m.read l).1.session (m.read l).1.number }, (m.read l).2)) := Lib.hid (by rw [Hq.out]; rfl)
  clear Hq
  generalize m.read l = r at *
  obtain ⟨k, er⟩ := r
  simp only at *
  go_enter Tryz.func22, Tryz.ntmps22
  go_wp2_with fail
  refine hread.mono ?_
  rintro e w1 ⟨rfl, t1⟩
  by_cases he : er = 0
  · subst he
    have e1 := Hq2.out
    rw [if_pos rfl] at e1
    subst e1
    go_wp2_with fail
    go_ret
    exact ⟨rfl, t1⟩
  · have e1 := Hq2.out
    rw [if_neg he] at e1
    subst e1
    have g1 : (er != 0) = true := by simpa using he
    have hcod : (er == 0) = false := by simpa using he
    obtain ⟨d, v, g, val, FV, FL, h1⟩ := t1.is_
    have hk1 := t1.keep
    have hc := h1.blk.cell
    unfold hostCells at hc
    go_wp2_with fail
    replace h1 := h1.drew
    have hlog := h1.log
    have hb1 := h1.blk
    have hla := h1.la.1
    go_region_held3 (fun w' => w'.cell? ⟨a, 7, none⟩ = some (.pointer (some ⟨g, 0, none⟩)) ∧ w'.cell? ⟨a, 9, none⟩ = some (.int .u32 k.session) ∧ w'.cell? ⟨a, 10, none⟩ = some (.int .u32 k.number)) (with_reducible (first | exact hostS hb1)) (first
      | (go_at_call 50; refine (diagNote_any g k.log FL er k.session k.number _ hcod hlog hlen).mono ?_; rintro e W ⟨rfl, hl2, hk2⟩; replace hb1 := hb1.keep hk2 hla))
    go_wp2_with fail
    go_ret
    have h2 := h1.onLog hl2 hk2 (fun x hx => hx)
    have t2 : HostTo B w1.drew a { k with log := noteM k.log er k.session k.number } (grow F w w1) W := h1.toIs h2 (fun x hx => hx) (hk2.mono (fun x _ hx => h1.fL x hx))
    have t1' : HostTo B w a k F w1.drew := ⟨⟨d, v, g, val, FV, FL, h1⟩, hk1.drew⟩
    exact ⟨rfl, HostTo.trans h0 t1' t2⟩
end Go.Proofs.YtfoldlbnkfnenaaGreat
/- A host takes a unit. -/
namespace Go.Proofs.YtfoldlbnkfnenaaGreat
open Go.RowKit
set_option maxHeartbeats 10000000
set_option maxRecDepth 100000

/-- Where a host takes a unit u (in a slice A, c) in a session. -/
structure TakeAt (B a : Nat) (m : HostM) (F : Nat → Prop) (u : UnitM) (A : Option Addr) (c Br : Nat) (w : World) : Prop where
  is_ : HostIs B w a m F
  inv : m.Inv
  s1 : m.state ≠ 1
  s5 : m.state ≠ 5
  ses : u.session = m.session
  ok : u.Ok
  rd : Reads w Br 1 A u.data.length (u8c u.data)
  rb : Br ≤ w.heap.size
  d8 : u.data.length ≤ 8
  fl : 0 ≤ u.flags ∧ u.flags ≤ 15
  len : m.log.length < 1073741800
  af : ∀ ad, A = some ad → ¬ F ad.block
theorem Reads.keepS {w w' : World} {B size n : Nat} {A : Option Addr} {xs : List Value} {S : Nat → Prop} (h : Reads w B size A n xs) (hk : Keep S w w') (hB : B ≤ w.heap.size) (hA : ∀ ad, A = some ad → ¬ S ad.block) : Reads w' B size A n xs := by
  refine ⟨h.1, fun hn => ?_⟩
  obtain ⟨ad, e, hb, hc⟩ := h.2 hn
  refine ⟨ad, e, hb, fun j u hu => ?_⟩
  rw [World.cell?_of_block (hk.block (ad.add j).block (by rw [block_of_add]; omega) (by rw [block_of_add]; exact hA ad e))]
  exact hc j u hu
section
variable {B a : Nat} {m : HostM} {F : Nat → Prop} {A : Option Addr} {c Br : Nat} {w : World}
/-- The host behind the unit's own copy: nothing has turned. -/
theorem TakeAt.same {u : UnitM} (h : TakeAt B a m F u A c Br w) {w' : World} (hb : Below w.heap.size w w') : HostTo B w a m F w' := by
  obtain ⟨d, v, g, val, FV, FL, hH⟩ := h.is_
  exact hH.toIs (hH.keepS (S := fun _ => False) (Keep.of_below hb) (fun _ _ h => h)) (fun x hx => .inl hx) (Keep.of_below hb)
theorem hostTake_agreed (code number flags : Int) (data : List UInt8) (h : TakeAt B a m F ⟨18, code, m.session, number, flags, data⟩ A c Br w) (hs : m.state = 2) :
    Calls Tryz.prog 91 #[.pointer (some ⟨a, 0, none⟩), unitVal ⟨18, code, m.session, number, flags, data⟩ (.slice A data.length c)] w fun e w' => e = .returned (.int .i64 0) ∧ HostTo B w a ({ m with state := 3 } : HostM).alive F w' := by
  have h0 := h.is_
  obtain ⟨d, v, g, val, FV, FL, hH⟩ := h.is_
  have hb0 : Below w.heap.size w (w.alloc (.cells #[.int .i64 18, .int .u32 code, .int .u32 m.session, .int .u32 number, .int .i64 flags, .slice A data.length c] 60)) := (Below.refl _ _).alloc (Nat.le_refl _) _
  have h1 := hH.keepS (S := fun _ => False) (Keep.of_below hb0) (fun _ _ h => h)
  have hc := h1.blk.cell
  have hf := h1.blk.frozen
  unfold hostCells at hc
  rw [hs] at hc
  unfold unitVal
  simp only
  have h2 : HostAt B ((w.alloc (.cells #[.int .i64 18, .int .u32 code, .int .u32 m.session, .int .u32 number, .int .i64 flags, .slice A data.length c] 60)).setCell ⟨a, 8, none⟩ (.int .i64 3)) a { m with state := 3 } F d v g val FV FL :=
    h1.upd ((Keep.refl (fun x => x = a) _).setCell (p := ⟨a, 8, none⟩) (fun _ => rfl) _) (by simp [World.setCell]) (by simpa [hostCells] using h1.blk.set_ 8 (.int .i64 3)) rfl rfl rfl rfl rfl
  have hk2 : Keep F w ((w.alloc (.cells #[.int .i64 18, .int .u32 code, .int .u32 m.session, .int .u32 number, .int .i64 flags, .slice A data.length c] 60)).setCell ⟨a, 8, none⟩ (.int .i64 3)) := (Keep.of_below hb0).setCell (p := ⟨a, 8, none⟩) (fun _ => hH.fa) _
  have t2 := hH.toIs h2 (fun x hx => .inl hx) hk2
  go_enter Tryz.func91, Tryz.ntmps91
  go_wp2_with fail
  refine (hostAlive_any B a { m with state := 3 } _ _ t2.is_).mono ?_
  rintro e W4 ⟨rfl, t4⟩
  go_wp2_with fail
  go_ret
  exact ⟨rfl, HostTo.trans h0 t2 t4⟩
theorem hostTake_started (code number flags : Int) (data : List UInt8) (h : TakeAt B a m F ⟨19, code, m.session, number, flags, data⟩ A c Br w) (hs : m.state = 3) :
    Calls Tryz.prog 91 #[.pointer (some ⟨a, 0, none⟩), unitVal ⟨19, code, m.session, number, flags, data⟩ (.slice A data.length c)] w fun e w' => e = .returned (.int .i64 0) ∧ HostTo B w a (({ m with state := 4 } : HostM).run true).alive F w' := by
  have h0 := h.is_
  obtain ⟨d, v, g, val, FV, FL, hH⟩ := h.is_
  have hb0 : Below w.heap.size w (w.alloc (.cells #[.int .i64 19, .int .u32 code, .int .u32 m.session, .int .u32 number, .int .i64 flags, .slice A data.length c] 60)) := (Below.refl _ _).alloc (Nat.le_refl _) _
  have h1 := hH.keepS (S := fun _ => False) (Keep.of_below hb0) (fun _ _ h => h)
  have hc := h1.blk.cell
  have hf := h1.blk.frozen
  unfold hostCells at hc
  rw [hs] at hc
  unfold unitVal
  simp only
  have h2 : HostAt B ((w.alloc (.cells #[.int .i64 19, .int .u32 code, .int .u32 m.session, .int .u32 number, .int .i64 flags, .slice A data.length c] 60)).setCell ⟨a, 8, none⟩ (.int .i64 4)) a { m with state := 4 } F d v g val FV FL :=
    h1.upd ((Keep.refl (fun x => x = a) _).setCell (p := ⟨a, 8, none⟩) (fun _ => rfl) _) (by simp [World.setCell]) (by simpa [hostCells] using h1.blk.set_ 8 (.int .i64 4)) rfl rfl rfl rfl rfl
  have hk2 : Keep F w ((w.alloc (.cells #[.int .i64 19, .int .u32 code, .int .u32 m.session, .int .u32 number, .int .i64 flags, .slice A data.length c] 60)).setCell ⟨a, 8, none⟩ (.int .i64 4)) := (Keep.of_below hb0).setCell (p := ⟨a, 8, none⟩) (fun _ => hH.fa) _
  go_enter Tryz.func91, Tryz.ntmps91
  go_wp2_with fail
  refine (valveRun_any v m.valve _ FV true _ h2.valve).mono ?_
  rintro e w3 ⟨rfl, hv3, hk3, hs3⟩
  have h3 := h2.onValve hv3 hk3 (fun x hx => .inl hx)
  have hk3' : Keep F w w3 := hk2.andThen hk3 (fun x _ hx => hH.fV x hx)
  have t3 : HostTo B w a (({ m with state := 4 } : HostM).run true) F w3 := hH.toIs h3 (fun x hx => hx.elim .inl (fun hx => .inr ⟨by have := hk2.size; omega, hx.2⟩)) hk3'
  clear hs3 hc hf
  go_wp2_with fail
  refine (hostAlive_any B a (({ m with state := 4 } : HostM).run true) _ _ t3.is_).mono ?_
  rintro e W4 ⟨rfl, t4⟩
  go_wp2_with fail
  go_ret
  exact ⟨rfl, HostTo.trans h0 t3 t4⟩
theorem flag8 {f : Int} (h0 : 0 ≤ f) (h1 : f ≤ 15) : (bits .and .i64 f 8 != 0) = decide (8 ≤ f) := by
  have e : ∀ k : Fin 16, (bits .and .i64 (k.val : Int) 8 != 0) = decide (8 ≤ (k.val : Int)) := by decide +kernel
  have := e ⟨f.toNat, by omega⟩
  simp only at this
  rwa [show ((f.toNat : Nat) : Int) = f by omega] at this
theorem hostTake_data (code number flags : Int) (data : List UInt8) (h : TakeAt B a m F ⟨20, code, m.session, number, flags, data⟩ A c Br w) (hs : m.state = 4) (h1 : m.number < number) (h2 : number < m.p.count) (h3 : (data.length : Int) = m.p.inn) :
    Calls Tryz.prog 91 #[.pointer (some ⟨a, 0, none⟩), unitVal ⟨20, code, m.session, number, flags, data⟩ (.slice A data.length c)] w fun e w' => e = .returned (.int .i64 0) ∧ HostTo B w a { ({ m with number := number } : HostM).alive with valve := ((({ m with number := number } : HostM).alive.valve.hold (decide (8 ≤ flags))).take data) } F w' := by
  have h0 := h.is_
  obtain ⟨d, v, g, val, FV, FL, hH⟩ := h.is_
  have hfl := flag8 h.fl.1 h.fl.2
  have hlaw := h.inv.plaw
  simp [ParM.lawful] at hlaw
  have hpos : 0 < data.length := by omega
  have hq3 : ((data.length : Int) == m.p.inn) = true := by simpa using h3
  have H3 := Lib.hid h3
  have hd8 : data.length ≤ 1000 := by have := h.d8; simp only at this; omega
  have hnok := h.ok.number
  simp only at hnok
  have hrd := h.rd
  have hrb := h.rb
  simp only at hrd
  have haf := h.af
  clear hlaw h3 h
  have hb0 : Below w.heap.size w (w.alloc (.cells #[.int .i64 20, .int .u32 code, .int .u32 m.session, .int .u32 number, .int .i64 flags, .slice A data.length c] 60)) := (Below.refl _ _).alloc (Nat.le_refl _) _
  have hA1 := hH.keepS (S := fun _ => False) (Keep.of_below hb0) (fun _ _ h => h)
  have hU1 := Blk.new w 60 #[.int .i64 20, .int .u32 code, .int .u32 m.session, .int .u32 number, .int .i64 flags, .slice A data.length c]
  have hua : w.heap.size ≠ a := by have := (hH.fb a hH.fa).2; omega
  have huF : ∀ x, F x → x ≠ w.heap.size := fun x hx e => by have := (hH.fb x hx).2; omega
  obtain ⟨u0, Hu0⟩ : ∃ e, Hid (e = w.heap.size) := ⟨_, Lib.hid rfl⟩
  have hc := hA1.blk.cell
  unfold hostCells at hc
  rw [hs] at hc
  unfold unitVal
  simp only
  go_enter Tryz.func91, Tryz.ntmps91
  go_upto_region 2 with fail
  rw [← Hu0.out] at hU1 hua huF ⊢
  generalize w.alloc (.cells #[.int .i64 20, .int .u32 code, .int .u32 m.session, .int .u32 number, .int .i64 flags, .slice A data.length c] 60) = W1 at *
  have huc := hU1.cell
  go_wp2_with fail
  go_big_quiet (fail)
  have hA2 := hA1.keepS (S := fun _ => False) ((Keep.refl _ W1).drewN nq) (fun _ _ h => h)
  have hU2 := hU1.drewN nq
  have hb2 := belowN hb0 nq
  generalize W1.drewN nq = W2 at *
  clear hc huc hA1 hU1 hb0
  have hc := hA2.blk.cell
  have hf := hA2.blk.frozen
  have huc := hU2.cell
  unfold hostCells at hc
  have hA3 : HostAt B (W2.setCell ⟨a, 10, none⟩ (.int .u32 number)) a { m with number := number } F d v g val FV FL :=
    hA2.upd ((Keep.refl (fun x => x = a) W2).setCell (p := ⟨a, 10, none⟩) (fun _ => rfl) _) (by simp [World.setCell]) (by simpa [hostCells] using hA2.blk.set_ 10 (.int .u32 number)) rfl rfl rfl rfl rfl
  have hU3 := hU2.far (p := ⟨a, 10, none⟩) hua (.int .u32 number)
  have hk3 : Keep F w (W2.setCell ⟨a, 10, none⟩ (.int .u32 number)) := (Keep.of_below hb2).setCell (p := ⟨a, 10, none⟩) (fun _ => hH.fa) _
  have hs2 := hb2.size
  have hr3 : Reads (W2.setCell ⟨a, 10, none⟩ (.int .u32 number)) Br 1 A data.length (u8c data) := hrd.keepS hk3 hrb haf
  go_wp2_with fail
  have hlt3 := hU3.lt
  generalize W2.setCell ⟨a, 10, none⟩ (.int .u32 number) = W3 at *
  refine (hostAlive_any B a { m with number := number } F _ ⟨d, v, g, val, FV, FL, hA3⟩).mono ?_
  rintro e W4 ⟨rfl, t4⟩
  have hs3 := hk3.size
  have hs4 := t4.keep.size
  obtain ⟨d4, v4, g4, val4, FV4, FL4, h4⟩ := t4.is_
  have hk4 : Keep F w W4 := hk3.andThen t4.keep (fun _ _ h => h)
  have hU4 := hU3.keep t4.keep (fun hx => huF u0 hx rfl)
  have hr4 := hr3.keepS t4.keep (by omega) haf
  have hul4 := hU4.lt
  have hgu : ∀ x, grow F W3 W4 x → x ≠ u0 := fun x hx e => hx.elim (fun hx => huF x hx e) (fun hx => by omega)
  have hgA : ∀ ad, A = some ad → ¬ grow F W3 W4 ad.block := by
    intro ad e hx
    rcases hx with hx | hx
    · exact haf ad e hx
    · obtain ⟨ad', e', hb, _⟩ := hrd.2 hpos
      rw [e] at e'
      injection e' with e'
      subst e'
      omega
  clear hc hf huc hA3 hr3 hU3
  have hc := h4.blk.cell
  unfold hostCells at hc
  have huc := hU4.cell
  replace h4 := h4.drew
  replace hU4 := hU4.drew
  have hk4d := hk4.drew
  have hr4d := hr4.drew
  have hbA := h4.blk
  have hv4 := h4.valve
  go_wp2_with fail
  go_region_held3 (fun w' => w'.cell? ⟨a, 6, none⟩ = some (.pointer (some ⟨v4, 0, none⟩)) ∧ w'.cell? ⟨u0, 4, none⟩ = some (.int .i64 flags)) (exact ⟨(hbA.cell 6).trans rfl, (hU4.cell 4).trans rfl⟩) (first
    | (go_at_call 122; refine (valveHold_any v4 _ _ FV4 (decide (8 ≤ flags)) _ hv4).mono ?_; rintro e W5 ⟨rfl, hv5, hk5, hs5⟩; have h5 := h4.onValve hv5 hk5 (fun x hx => .inl hx); clear hbA; have hbA := h5.blk; replace hU4 := hU4.keep hk5 (fun hx => hgu _ (h4.fV _ hx) rfl)))
  have hk5' : Keep F w W5 := hk4d.andThen hk5 (fun x hx hg => (h4.fV x hg).elim id (fun hg => by omega))
  have hr5 := hr4d.keepS hk5 (by show Br ≤ W4.heap.size; omega) (fun ad e hg => hgA ad e (h4.fV _ hg))
  have hs5' : W4.heap.size ≤ W5.heap.size := hk5.size
  have hgu5 : ∀ x, grow (grow F W3 W4) W4.drew W5 x → x ≠ u0 := fun x hx e => hx.elim (fun hx => hgu x hx e) (fun hx => by have : W4.drew.heap.size = W4.heap.size := rfl; omega)
  replace h5 := h5.drew
  replace hU4 := hU4.drew
  have hr5d := hr5.drew
  have hk5d := hk5'.drew
  clear hc huc hbA hs5 hv5
  have hbA := h5.blk
  have hv5 := h5.valve
  have hlt5 := hU4.lt
  have h3' := H3.out
  generalize hmm : ({ ({ m with number := number } : HostM).alive with valve := ({ m with number := number } : HostM).alive.valve.hold (decide (8 ≤ flags)) } : HostM) = m5 at *
  have hp5 : m5.p = m.p := by rw [← hmm]; rfl
  go_wp2_with fail
  go_region_held3 (fun w' => w'.cell? ⟨a, 6, none⟩ = some (.pointer (some ⟨v4, 0, none⟩)) ∧ w'.cell? ⟨u0, 5, none⟩ = some (.slice A data.length c)) (exact ⟨(hbA.cell 6).trans rfl, (hU4.cell 5).trans rfl⟩) (first
    | (go_at_call 123; refine (valveTake_any v4 m5.valve m5.p.inn FV4 A c Br data _ hv5 hr5d (by show Br ≤ W5.heap.size; omega) (by rw [hp5]; exact h3'.symm) hpos hd8).mono ?_; rintro e W6 ⟨rfl, hv6, hk6⟩; have h6 := h5.onValve hv6 hk6 (fun x hx => hx); clear hbA; have hbA := h6.blk; replace hU4 := hU4.keep hk6 (fun hx => hgu5 _ (h5.fV _ hx) rfl)))
  have hs6 := hk6.size
  have e5 : W5.drew.heap.size = W5.heap.size := rfl
  have e4 : W4.drew.heap.size = W4.heap.size := rfl
  have hin : ∀ x, grow (grow (grow F W3 W4) W4.drew W5) W5.drew W6 x → grow F w W6 x := by
    intro x hx
    rcases hx with ((hx | hx) | hx) | hx
    · exact .inl hx
    · exact .inr (by omega)
    · exact .inr (by omega)
    · exact .inr (by omega)
  have hk7 : Keep F w W6 := hk5d.andThen hk6 (fun x hx hg => by
    have := h5.fV x hg
    rcases this with (hx1 | hx1) | hx1
    · exact hx1
    · omega
    · omega)
  all_goals
    go_wp2_with fail
    go_ret
    subst hmm
    exact ⟨rfl, hH.toIs h6 hin hk7⟩
theorem hostTake_last (code number flags : Int) (data : List UInt8) (h : TakeAt B a m F ⟨21, code, m.session, number, flags, data⟩ A c Br w) (hs : m.state = 4) (h1 : m.number < number) (h2 : number = m.p.count) :
    Calls Tryz.prog 91 #[.pointer (some ⟨a, 0, none⟩), unitVal ⟨21, code, m.session, number, flags, data⟩ (.slice A data.length c)] w fun e w' => e = .returned (.int .i64 0) ∧ HostTo B w a { ((({ m with number := number } : HostM).alive.trip 80).run false) with state := 5 } F w' := by
  have h0 := h.is_
  obtain ⟨d, v, g, val, FV, FL, hH⟩ := h.is_
  have hlen := h.len
  have hq2 : (number == m.p.count) = true := by simpa using h2
  have hq3 : decide (number < m.p.count) = false := by simp; omega
  clear h h2
  have hb0 : Below w.heap.size w (w.alloc (.cells #[.int .i64 21, .int .u32 code, .int .u32 m.session, .int .u32 number, .int .i64 flags, .slice A data.length c] 60)) := (Below.refl _ _).alloc (Nat.le_refl _) _
  have hA1 := hH.keepS (S := fun _ => False) (Keep.of_below hb0) (fun _ _ h => h)
  have hU1 := Blk.new w 60 #[.int .i64 21, .int .u32 code, .int .u32 m.session, .int .u32 number, .int .i64 flags, .slice A data.length c]
  have hua : w.heap.size ≠ a := by have := (hH.fb a hH.fa).2; omega
  obtain ⟨u0, Hu0⟩ : ∃ e, Hid (e = w.heap.size) := ⟨_, Lib.hid rfl⟩
  have hc := hA1.blk.cell
  unfold hostCells at hc
  rw [hs] at hc
  unfold unitVal
  simp only
  go_enter Tryz.func91, Tryz.ntmps91
  go_upto_region 2 with fail
  rw [← Hu0.out] at hU1 hua ⊢
  generalize w.alloc (.cells #[.int .i64 21, .int .u32 code, .int .u32 m.session, .int .u32 number, .int .i64 flags, .slice A data.length c] 60) = W1 at *
  have huc := hU1.cell
  go_wp2_with fail
  go_big_quiet (fail)
  have hA2 := hA1.keepS (S := fun _ => False) ((Keep.refl _ W1).drewN nq) (fun _ _ h => h)
  have hU2 := hU1.drewN nq
  have hb2 := belowN hb0 nq
  generalize W1.drewN nq = W2 at *
  clear hc huc hA1 hU1 hb0
  have hc := hA2.blk.cell
  have huc := hU2.cell
  unfold hostCells at hc
  rw [hs] at hc
  go_wp2_with fail
  go_big_quiet (fail)
  have hA3 := hA2.keepS (S := fun _ => False) ((Keep.refl _ W2).drewN nq) (fun _ _ h => h)
  have hU3 := hU2.drewN nq
  have hb3 := belowN hb2 nq
  generalize W2.drewN nq = W3 at *
  clear hc huc hA2 hU2 hb2
  have hc := hA3.blk.cell
  have hf := hA3.blk.frozen
  have huc := hU3.cell
  unfold hostCells at hc
  have hA4 : HostAt B (W3.setCell ⟨a, 10, none⟩ (.int .u32 number)) a { m with number := number } F d v g val FV FL :=
    hA3.upd ((Keep.refl (fun x => x = a) W3).setCell (p := ⟨a, 10, none⟩) (fun _ => rfl) _) (by simp [World.setCell]) (by simpa [hostCells] using hA3.blk.set_ 10 (.int .u32 number)) rfl rfl rfl rfl rfl
  have hk4 : Keep F w (W3.setCell ⟨a, 10, none⟩ (.int .u32 number)) := (Keep.of_below hb3).setCell (p := ⟨a, 10, none⟩) (fun _ => hH.fa) _
  have t4 := hH.toIs hA4 (fun x hx => .inl hx) hk4
  go_wp2_with fail
  clear hc hf huc
  refine (hostAlive_any B a { m with number := number } _ _ t4.is_).mono ?_
  rintro e W5 ⟨rfl, t5⟩
  have t5' := HostTo.trans h0 t4 t5
  go_wp2_with fail
  refine (hostTrip_any B a ({ m with number := number } : HostM).alive _ 80 W5 (by decide) t5'.is_ (by simp only [HostM.alive]; omega)).mono ?_
  rintro e W6 ⟨rfl, t6⟩
  have t6' := HostTo.trans h0 t5' t6
  obtain ⟨d6, v6, g6, val6, FV6, FL6, h6⟩ := t6'.is_
  have hc6 := h6.blk.cell
  unfold hostCells at hc6
  go_wp2_with fail
  refine (valveRun_any v6 _ _ FV6 false W6 h6.valve).mono ?_
  rintro e W7 ⟨rfl, hv7, hk7, hs7⟩
  have h7 := h6.onValve hv7 hk7 (fun x hx => .inl hx)
  have Hs7 := Lib.hid hs7
  clear hc6 hs7
  have hB7 := h7.blk
  have hc7 := hB7.cell
  have hf7 := hB7.frozen
  have h8 : HostAt B (W7.setCell ⟨a, 8, none⟩ (.int .i64 5)) a { ((({ m with number := number } : HostM).alive.trip 80).run false) with state := 5 } (grow (grow F w W6) W6 W7) d6 v6 g6 val6 FV6 FL6 :=
    h7.upd ((Keep.refl (fun x => x = a) W7).setCell (p := ⟨a, 8, none⟩) (fun _ => rfl) _) (by simp [World.setCell]) (by simpa [hostCells, HostM.run] using hB7.set_ 8 (.int .i64 5)) rfl rfl rfl rfl rfl
  unfold hostCells at hc7
  go_wp2_with fail
  go_ret
  have hz8 : (W7.setCell ⟨a, 8, none⟩ (.int .i64 5)).heap.size = W7.heap.size := by simp [World.setCell]
  have hs6 := t6'.keep.size
  have hs7 := Hs7.out
  refine ⟨rfl, hH.toIs h8 (fun x hx => ?_) ((t6'.keep.andThen hk7 (fun x hx hg => (h6.fV x hg).elim id (fun hg => by omega))).setCell (p := ⟨a, 8, none⟩) (fun _ => hH.fa) _)⟩
  rcases hx with (hx | hx) | hx
  · exact .inl hx
  · exact .inr (by omega)
  · exact .inr (by omega)
end
end Go.Proofs.YtfoldlbnkfnenaaGreat
