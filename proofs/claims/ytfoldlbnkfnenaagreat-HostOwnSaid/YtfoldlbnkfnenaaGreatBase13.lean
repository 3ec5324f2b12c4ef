/- The base of the laws of the host, part 13: contracts and plain lemmas, no statement. -/
import Derived.Test.YtfoldlbnkfnenaaGreatBase12
import Derived.Deep.RegionHeld3
/- The reference's host: Send. -/
namespace Go.Proofs.YtfoldlbnkfnenaaGreat
open Go.RowKit
set_option maxHeartbeats 10000000
set_option maxRecDepth 100000

theorem compose_waits (m : HostM) (t : Bool) : ({ m with waits := t } : HostM).compose = ({ m.compose.1 with waits := t }, m.compose.2) := by
  unfold HostM.compose
  simp only
  split
  · rfl
  split
  · rfl
  split
  · rfl
  split <;> rfl
theorem rhS0 {w : World} {b : Nat} {m : HostM} {lg vv val : Value} (h : Blk w b 96 (rhCells m lg vv val)) :
    w.cell? ⟨b, 0, none⟩ = some (.int .u32 m.p.code) ∧ w.cell? ⟨b, 1, none⟩ = some (.int .i64 m.p.out) ∧ w.cell? ⟨b, 2, none⟩ = some (.int .i64 m.p.inn) ∧ w.cell? ⟨b, 3, none⟩ = some (.int .i64 m.p.watch) ∧ w.cell? ⟨b, 4, none⟩ = some (.int .u32 m.p.count) ∧ w.cell? ⟨b, 16, none⟩ = some (.int .u32 m.session) :=
  ⟨(h.cell 0).trans rfl, (h.cell 1).trans rfl, (h.cell 2).trans rfl, (h.cell 3).trans rfl, (h.cell 4).trans rfl, (h.cell 16).trans rfl⟩
theorem rhS8 {w : World} {b : Nat} {m : HostM} {lg vv val : Value} (h : Blk w b 96 (rhCells m lg vv val)) :
    w.cell? ⟨b, 16, none⟩ = some (.int .u32 m.session) ∧ w.cell? ⟨b, 18, none⟩ = some (.int .u32 m.sent) ∧ w.cell? ⟨b, 22, none⟩ = some (.bool m.hold) ∧ w.cell? ⟨b, 21, none⟩ = some val :=
  ⟨(h.cell 16).trans rfl, (h.cell 18).trans rfl, (h.cell 22).trans rfl, (h.cell 21).trans rfl⟩
theorem rhS9 {w : World} {b : Nat} {m : HostM} {lg vv val : Value} {s n : Int} (h : Blk w b 96 (rhCells m lg vv val)) (e1 : m.session = s) (e2 : m.sent = n) :
    w.cell? ⟨b, 16, none⟩ = some (.int .u32 s) ∧ w.cell? ⟨b, 18, none⟩ = some (.int .u32 n) := by
  subst e1
  subst e2
  exact ⟨(h.cell 16).trans rfl, (h.cell 18).trans rfl⟩
theorem rhSend_any (B b : Nat) (m : HostM) (F : Nat → Prop) (w : World) (h0 : RHIs B w b m F) (hg : m.Good) (hlen : m.log.length < 1073741700) :
    Calls Tryz.prog 20 #[.pointer (some ⟨b, 0, none⟩)] w fun e w' => ∃ x, e = .returned (.tuple #[x, .int .i64 m.send.2.2]) ∧ w'.ownsRow w.heap.size 5 1 x m.send.2.1.length (u8c m.send.2.1) ∧ RHTo B w b m.send.1 F w' := by
  have hI := h0
  obtain ⟨A, c, vv, val, hH⟩ := h0
  have hc := hH.blk.cell
  unfold rhCells at hc
  by_cases h5 : m.state = 5
  · have e1 : m.send = (m, [], 132) := by unfold HostM.send; rw [if_pos h5]
    rw [e1]
    rw [h5] at hc
    clear e1
    go_enter Tryz.func20, Tryz.ntmps20
    go_wp2_with fail
    refine bodyPost_ret (v := .tuple #[.slice none 0 0, .int .i64 132]) (by simp [results, Tryz.results20, go_sem]) rfl ⟨_, rfl, World.ownsRow_nil _ _ _ _, RHTo.refl hI⟩
  have g5 : (m.state == 5) = false := by simpa using h5
  have hgl := hg.lost
  have hll := lost_log m
  have hls := lost_state h5
  have Hs : Hid (m.send = ({ m.lost.compose.1 with waits := true }, m.lost.compose.2, 0)) := Lib.hid (by unfold HostM.send; rw [if_neg h5])
  rw [Hs.out]
  have hcw := compose_waits m.lost true
  have hc1 : ({ m.lost.compose.1 with waits := true } : HostM) = ({ m.lost with waits := true } : HostM).compose.1 := by rw [hcw]
  have hc2 : m.lost.compose.2 = ({ m.lost with waits := true } : HostM).compose.2 := by rw [hcw]
  rw [hc1, hc2]
  clear hc1 hc2 hcw Hs
  obtain ⟨k, Hk⟩ : ∃ k : HostM, Hid (k = { m.lost with waits := true }) := ⟨_, Lib.hid rfl⟩
  rw [← Hk.out]
  obtain ⟨cm, Hcm⟩ : ∃ x, Hid (x = k.compose) := ⟨_, Lib.hid rfl⟩
  rw [← Hcm.out]
  go_enter Tryz.func20, Tryz.ntmps20
  go_upto_region 3 with fail
  go_cut [19] from 4 to 151 (fun v19 wc => v19 = .bool (m.state != 1 && m.waits) ∧ wc = w)
  case first =>
    cases g1 : (m.state != 1) with
    | false =>
      go_wp2_with fail
      go_meet
      exact ⟨by rw [g1]; rfl, rfl⟩
    | true =>
      go_wp2_with fail
      go_meet
      exact ⟨by rw [g1]; rfl, rfl⟩
  obtain ⟨e19, ew⟩ := hcut
  rw [e19, ew]
  clear e19 ew
  go_upto_if 19 with (fail)
  go_cut [] from 4 to 151 (fun wc => ∃ wt, RHTo B w b { m.lost with waits := wt } F wc)
  case first =>
    by_cases s1 : m.state = 1
    · have e : Hid (m.lost = m) := Lib.hid (by unfold HostM.lost; rw [if_pos (.inl s1)])
      have g1 : (m.state != 1) = false := by simpa using s1
      rw [g1, Bool.false_and]
      clear s1 g1
      go_wp2_with fail
      go_meet
      rw [e.out]
      exact ⟨m.waits, RHTo.refl hI⟩
    have g1 : (m.state != 1) = true := by simpa using s1
    cases hw : m.waits with
    | false =>
      have e : Hid (m.lost = m) := Lib.hid (by unfold HostM.lost; rw [if_pos (.inr hw)])
      rw [Bool.and_false]
      clear g1 s1
      replace hw := Lib.hid hw
      go_wp2_with fail
      go_meet
      rw [e.out]
      exact ⟨m.waits, RHTo.refl hI⟩
    | true =>
      rw [g1, Bool.and_true]
      rw [hw] at hc
      have hno : ¬ (m.state = 1 ∨ m.waits = false) := by rw [hw]; simp [s1]
      have hmi := hg.inv.missed
      have hwr : IntKind.i64.wrap (m.missed + 1) = m.missed + 1 := IntWalk.i64_in _ (by omega)
      have hf := hH.blk.frozen
      have hA : RHAt B (w.setCell ⟨b, 20, none⟩ (.int .i64 (m.missed + 1))) b { m with missed := m.missed + 1 } F A c vv val :=
        hH.upd ((Keep.refl (fun x => x = b) w).setCell (p := ⟨b, 20, none⟩) (fun _ => rfl) _) (by simp [World.setCell]) (by simpa [rhCells, hw] using hH.blk.set_ 20 (.int .i64 (m.missed + 1))) rfl rfl rfl
      have hkA : Keep F w (w.setCell ⟨b, 20, none⟩ (.int .i64 (m.missed + 1))) := (Keep.refl F w).setCell (p := ⟨b, 20, none⟩) (fun _ => hH.fb) _
      have toA := hH.toIs hA (fun x hx => .inl hx) hkA
      by_cases h4 : m.missed + 1 < 4
      · have e : Hid (m.lost = { m with missed := m.missed + 1 }) := Lib.hid (by unfold HostM.lost; rw [if_neg hno]; simp only; rw [if_pos h4])
        clear hno
        go_wp2_with fail
        go_meet
        rw [e.out]
        exact ⟨m.waits, toA⟩
      by_cases s4 : m.state = 4
      · have e : Hid (m.lost = (({ m with missed := m.missed + 1 } : HostM).trip 131).leave) := Lib.hid (by unfold HostM.lost; rw [if_neg hno]; simp only; rw [if_neg h4, if_pos s4])
        rw [s4] at hc
        clear hno g1
        go_wp2_with fail
        refine (rhLatch_any B b { m with missed := m.missed + 1 } _ 131 _ (by decide) toA.is_ (by simp only; omega)).mono ?_
        rintro e w2 ⟨rfl, t2⟩
        have t2' := RHTo.trans hI toA t2
        obtain ⟨A2, c2, vv2, val2, h2⟩ := t2'.is_
        have hc2 := h2.blk.cell
        unfold rhCells at hc2
        go_wp2_with fail
        refine (rvRun_any b 8 _ _ _ _ _ vv2 w2 false h2.valveBlk rfl).mono ?_
        rintro e w3 ⟨rfl, hv3⟩
        have h3 := h2.onValve hv3 (run_val _ false vv2)
        have hk3 : Keep F w w3 := t2'.keep.andThen hv3.2.1 (fun x _ hx => hx ▸ hH.fb)
        have Hz3 := Lib.hid hv3.2.2
        clear hc2 hv3 hc
        have hB3 := h3.blk
        have hc3 := hB3.cell
        have hf3 := hB3.frozen
        have h4' : RHAt B ((((w3.setCell ⟨b, 15, none⟩ (.int .i64 1)).setCell ⟨b, 17, none⟩ (.int .u32 0)).setCell ⟨b, 18, none⟩ (.int .u32 0)).setCell ⟨b, 20, none⟩ (.int .i64 0)) b { (({ m with missed := m.missed + 1 } : HostM).trip 131).leave with waits := m.waits } (grow F w w2) A2 c2 _ val2 :=
          h3.upd (((((Keep.refl (fun x => x = b) w3).setCell (p := ⟨b, 15, none⟩) (fun _ => rfl) _).setCell (p := ⟨b, 17, none⟩) (fun _ => rfl) _).setCell (p := ⟨b, 18, none⟩) (fun _ => rfl) _).setCell (p := ⟨b, 20, none⟩) (fun _ => rfl) _) (by simp [World.setCell]) (by simpa [rhCells, HostM.leave, HostM.trip, hw] using (((hB3.set_ 15 (.int .i64 1)).set_ 17 (.int .u32 0)).set_ 18 (.int .u32 0)).set_ 20 (.int .i64 0)) rfl rfl rfl
        have hk4 : Keep F w ((((w3.setCell ⟨b, 15, none⟩ (.int .i64 1)).setCell ⟨b, 17, none⟩ (.int .u32 0)).setCell ⟨b, 18, none⟩ (.int .u32 0)).setCell ⟨b, 20, none⟩ (.int .i64 0)) := (((hk3.setCell (p := ⟨b, 15, none⟩) (fun _ => hH.fb) _).setCell (p := ⟨b, 17, none⟩) (fun _ => hH.fb) _).setCell (p := ⟨b, 18, none⟩) (fun _ => hH.fb) _).setCell (p := ⟨b, 20, none⟩) (fun _ => hH.fb) _
        unfold rhCells at hc3
        go_wp2_with fail
        go_meet
        rw [e.out]
        have hz4 : ((((w3.setCell ⟨b, 15, none⟩ (.int .i64 1)).setCell ⟨b, 17, none⟩ (.int .u32 0)).setCell ⟨b, 18, none⟩ (.int .u32 0)).setCell ⟨b, 20, none⟩ (.int .i64 0)).heap.size = w3.heap.size := by simp [World.setCell]
        exact ⟨m.waits, hH.toIs h4' (fun x hx => hx.elim .inl (fun hx => .inr ⟨hx.1, by rw [hz4, Hz3.out]; exact hx.2⟩)) hk4⟩
      · have e : Hid (m.lost = ({ m with missed := m.missed + 1 } : HostM).leave) := Lib.hid (by unfold HostM.lost; rw [if_neg hno]; simp only; rw [if_neg h4, if_neg s4])
        have g4 : (m.state == 4) = false := by simpa using s4
        clear hno
        have t2' := toA
        obtain ⟨A2, c2, vv2, val2, h2⟩ := t2'.is_
        go_wp2_with fail
        generalize w.setCell ⟨b, 20, none⟩ (.int .i64 (m.missed + 1)) = w2 at *
        refine (rvRun_any b 8 _ _ _ _ _ vv2 w2 false h2.valveBlk rfl).mono ?_
        rintro e w3 ⟨rfl, hv3⟩
        have h3 := h2.onValve hv3 (run_val _ false vv2)
        have hk3 : Keep F w w3 := t2'.keep.andThen hv3.2.1 (fun x _ hx => hx ▸ hH.fb)
        have Hz3 := Lib.hid hv3.2.2
        clear hv3 hc
        have hB3 := h3.blk
        have hc3 := hB3.cell
        have hf3 := hB3.frozen
        have h4' : RHAt B ((((w3.setCell ⟨b, 15, none⟩ (.int .i64 1)).setCell ⟨b, 17, none⟩ (.int .u32 0)).setCell ⟨b, 18, none⟩ (.int .u32 0)).setCell ⟨b, 20, none⟩ (.int .i64 0)) b { ({ m with missed := m.missed + 1 } : HostM).leave with waits := m.waits } (grow F w w2) A2 c2 _ val2 :=
          h3.upd (((((Keep.refl (fun x => x = b) w3).setCell (p := ⟨b, 15, none⟩) (fun _ => rfl) _).setCell (p := ⟨b, 17, none⟩) (fun _ => rfl) _).setCell (p := ⟨b, 18, none⟩) (fun _ => rfl) _).setCell (p := ⟨b, 20, none⟩) (fun _ => rfl) _) (by simp [World.setCell]) (by simpa [rhCells, HostM.leave, HostM.trip, hw] using (((hB3.set_ 15 (.int .i64 1)).set_ 17 (.int .u32 0)).set_ 18 (.int .u32 0)).set_ 20 (.int .i64 0)) rfl rfl rfl
        have hk4 : Keep F w ((((w3.setCell ⟨b, 15, none⟩ (.int .i64 1)).setCell ⟨b, 17, none⟩ (.int .u32 0)).setCell ⟨b, 18, none⟩ (.int .u32 0)).setCell ⟨b, 20, none⟩ (.int .i64 0)) := (((hk3.setCell (p := ⟨b, 15, none⟩) (fun _ => hH.fb) _).setCell (p := ⟨b, 17, none⟩) (fun _ => hH.fb) _).setCell (p := ⟨b, 18, none⟩) (fun _ => hH.fb) _).setCell (p := ⟨b, 20, none⟩) (fun _ => hH.fb) _
        unfold rhCells at hc3
        go_wp2_with fail
        go_meet
        rw [e.out]
        have hz4 : ((((w3.setCell ⟨b, 15, none⟩ (.int .i64 1)).setCell ⟨b, 17, none⟩ (.int .u32 0)).setCell ⟨b, 18, none⟩ (.int .u32 0)).setCell ⟨b, 20, none⟩ (.int .i64 0)).heap.size = w3.heap.size := by simp [World.setCell]
        exact ⟨m.waits, hH.toIs h4' (fun x hx => hx.elim .inl (fun hx => .inr ⟨hx.1, by rw [hz4, Hz3.out]; exact hx.2⟩)) hk4⟩
  case rest =>
    obtain ⟨wt, t1⟩ := hcut
    obtain ⟨W1, rfl⟩ : ∃ W : World, W = wc := ⟨_, rfl⟩
    clear hc
    obtain ⟨A1, c1, vv1, val1, h1⟩ := t1.is_
    have hk1 := t1.keep
    have hs1 := hk1.size
    have hf1 := h1.blk.frozen
    have hc1 := h1.blk.cell
    unfold rhCells at hc1
    have h2 : RHAt B (W1.setCell ⟨b, 19, none⟩ (.bool true)) b { m.lost with waits := true } (grow F w W1) A1 c1 vv1 val1 :=
      h1.upd ((Keep.refl (fun x => x = b) W1).setCell (p := ⟨b, 19, none⟩) (fun _ => rfl) _) (by simp [World.setCell]) (by simpa [rhCells] using h1.blk.set_ 19 (.bool true)) rfl rfl rfl
    have hk2 : Keep F w (W1.setCell ⟨b, 19, none⟩ (.bool true)) := hk1.setCell (p := ⟨b, 19, none⟩) (fun _ => hH.fb) _
    have t2 : RHTo B w b { m.lost with waits := true } F (W1.setCell ⟨b, 19, none⟩ (.bool true)) := hH.toIs h2 (fun x hx => hx.elim .inl (fun hx => .inr ⟨hx.1, by simpa [World.setCell] using hx.2⟩)) hk2
    go_upto_region 14 with fail
    have hgk : k.Good := by rw [Hk.out]; exact ⟨{ hgl.inv with }, hgl.sent0, hgl.fr⟩
    have hlk : k.log.length < 1073741800 := by rw [Hk.out]; simp only; omega
    have hst : k.state ≠ 5 := by rw [Hk.out]; exact hls
    rw [← Hk.out] at t2
    clear t1 h1 hf1 hc1 hk1 h2
    generalize W1.setCell ⟨b, 19, none⟩ (.bool true) = W2 at *
    clear hgl hll hls
    obtain ⟨A2, c2, vv2, val2, h2⟩ := t2.is_
    have hc := h2.blk.cell
    unfold rhCells at hc
    have hs2 := hk2.size
    have hp := hgk.inv.pok
    have hpl := hgk.inv.plaw
    have hsr := hgk.inv.session
    have hsg := fun W => r9sign_any k.p W hp hpl
    have hsl := sign_length k.p
    unfold parVal at hsg
    by_cases s1 : k.state = 1
    · have hcm : cm = (k, k.frame 1 0 0 0 k.p.sign) := by rw [Hcm.out]; unfold HostM.compose; rw [if_pos s1]
      subst hcm
      clear Hcm
      rw [s1] at hc
      go_wp2_with fail
      refine (hsg _).mono ?_
      rintro e W3 ⟨v3, rfl, hown3, hb3⟩
      obtain ⟨A3, c3, rfl⟩ := own_slice hown3
      have h3 := h2.below hb3
      go_wp2_with fail
      refine (rhFrame_any b k _ _ _ 1 0 0 0 k.p.sign A3 4 c3 W3.heap.size W3 h3.blk hp hsl (by omega) (by omega) (Reads.of_own hown3) (Nat.le_refl _)).mono ?_
      rintro e W4 ⟨v4, rfl, hown4, hb4⟩
      obtain ⟨A4, c4, rfl⟩ := own_slice hown4
      go_wp2_with fail
      have hb5 := hb3.trans (hb4.mono hb3.size)
      refine bodyPost_ret (v := .tuple #[.slice A4 (k.frame 1 0 0 0 k.p.sign).length c4, .int .i64 0]) (by simp [results, Tryz.results20, go_sem]) rfl ⟨_, rfl, own_base hown4 (by have := hb3.size; omega), RHTo.trans hI t2 (RHTo.ofBelow t2.is_ hb5)⟩
    have gs1 : (k.state == 1) = false := by simpa using s1
    by_cases s2 : k.state = 2
    · have hcm : cm = (k, k.frame 2 k.session 0 0 k.p.sign) := by rw [Hcm.out]; unfold HostM.compose; rw [if_neg s1, if_pos s2]
      subst hcm
      clear Hcm
      rw [s2] at hc
      replace h2 := h2.drew
      have hbH := h2.blk
      go_wp2_with fail
      go_region_held3 (fun w' => w'.cell? ⟨b, 0, none⟩ = some (.int .u32 k.p.code) ∧ w'.cell? ⟨b, 1, none⟩ = some (.int .i64 k.p.out) ∧ w'.cell? ⟨b, 2, none⟩ = some (.int .i64 k.p.inn) ∧ w'.cell? ⟨b, 3, none⟩ = some (.int .i64 k.p.watch) ∧ w'.cell? ⟨b, 4, none⟩ = some (.int .u32 k.p.count) ∧ w'.cell? ⟨b, 16, none⟩ = some (.int .u32 k.session)) (exact rhS0 hbH) (first
        | (go_at_call 47; refine (hsg _).mono ?_; rintro e W3 ⟨v3, rfl, hown3, hb3⟩; obtain ⟨A3, c3, hv3⟩ := own_slice hown3; subst hv3; replace h2 := h2.below hb3; clear hbH; have hbH := h2.blk)
        | (go_at_call 46; refine (rhFrame_any b k _ _ _ 2 k.session 0 0 k.p.sign A3 4 c3 W3.heap.size W3 hbH hp hsl hsr (by omega) (Reads.of_own hown3) (Nat.le_refl _)).mono ?_; rintro e W4 ⟨v4, rfl, hown4, hb4⟩; obtain ⟨A4, c4, hv4⟩ := own_slice hown4; subst hv4; replace h2 := h2.below hb4; clear hbH; have hbH := h2.blk))
      go_wp2_with fail
      have hb5 : Below W2.heap.size W2 W4 := ((Below.refl W2.heap.size W2).drew.trans hb3).trans (hb4.mono hb3.size)
      refine bodyPost_ret (v := .tuple #[.slice A4 (k.frame 2 k.session 0 0 k.p.sign).length c4, .int .i64 0]) (by simp [results, Tryz.results20, go_sem]) rfl ⟨_, rfl, own_base hown4 (by have : W2.heap.size ≤ W3.heap.size := hb3.size; omega), RHTo.trans hI t2 (RHTo.ofBelow t2.is_ hb5)⟩
    have gs2 : (k.state == 2) = false := by simpa using s2
    by_cases s3 : k.state = 3
    · have hcm : cm = (k, k.frame 3 k.session 0 0 []) := by rw [Hcm.out]; unfold HostM.compose; rw [if_neg s1, if_neg s2, if_pos s3]
      subst hcm
      clear Hcm
      rw [s3] at hc
      go_wp2_with fail
      refine (rhFrame_any b k _ _ _ 3 k.session 0 0 [] none 0 0 0 W2 h2.blk hp rfl hsr (by omega) Reads.none_ (Nat.zero_le _)).mono ?_
      rintro e W4 ⟨v4, rfl, hown4, hb4⟩
      obtain ⟨A4, c4, rfl⟩ := own_slice hown4
      go_wp2_with fail
      refine bodyPost_ret (v := .tuple #[.slice A4 (k.frame 3 k.session 0 0 []).length c4, .int .i64 0]) (by simp [results, Tryz.results20, go_sem]) rfl ⟨_, rfl, own_base hown4 hs2, RHTo.trans hI t2 (RHTo.ofBelow t2.is_ hb4)⟩
    have gs3 : (k.state == 3) = false := by simpa using s3
    have s4 : k.state = 4 := by have := hgk.inv.state; omega
    have hru := hgk.inv.run s4
    have hse := hgk.inv.sent
    have hct := hp.count
    have hw1 : IntKind.u32.wrap (k.sent + 1) = k.sent + 1 := IntWalk.u32_in _ (by omega)
    have hn1 : 0 ≤ k.sent + 1 ∧ k.sent + 1 < 4294967296 := by omega
    have hlaw := hpl
    simp [ParM.lawful] at hlaw
    obtain ⟨N, hN⟩ : ∃ N : Nat, k.p.inn = (N : Int) := ⟨k.p.inn.toNat, by omega⟩
    have hN8 : N ≤ 8 := by omega
    have hvv : ∀ l, k.valve.value = some l → l.length = N := fun l hl => by have := hgk.inv.vval l hl; omega
    have HN := Lib.hid hN
    have Hvv := Lib.hid hvv
    clear hlaw hN hvv
    have hf2 := h2.blk.frozen
    rw [s4] at hc
    have h3 : RHAt B (W2.setCell ⟨b, 18, none⟩ (.int .u32 (k.sent + 1))) b { k with sent := k.sent + 1 } (grow F w W2) A2 c2 vv2 val2 :=
      h2.upd ((Keep.refl (fun x => x = b) W2).setCell (p := ⟨b, 18, none⟩) (fun _ => rfl) _) (by simp [World.setCell]) (by simpa [rhCells] using h2.blk.set_ 18 (.int .u32 (k.sent + 1))) rfl rfl rfl
    have t3 : RHTo B w b { k with sent := k.sent + 1 } F (W2.setCell ⟨b, 18, none⟩ (.int .u32 (k.sent + 1))) :=
      hH.toIs h3 (fun x hx => hx.elim .inl (fun hx => .inr ⟨hx.1, by simpa [World.setCell] using hx.2⟩)) (hk2.setCell (p := ⟨b, 18, none⟩) (fun _ => hH.fb) _)
    by_cases hq : k.sent + 1 = k.p.count
    · have hqb : (k.sent + 1 == k.p.count) = true := by simpa using hq
      have hcm : cm = ({ (({ k with sent := k.sent + 1 } : HostM).trip 80).run false with state := 5 }, k.frame 5 k.session (k.sent + 1) 0 []) := by
        rw [Hcm.out]
        unfold HostM.compose
        rw [if_neg s1, if_neg s2, if_neg s3]
        simp only
        rw [if_pos hq]
        rfl
      subst hcm
      clear Hcm hq s1 s2 s3 s4 hst
      go_upto_region 22 with fail
      clear hc hf2 h2 hk2
      generalize W2.setCell ⟨b, 18, none⟩ (.int .u32 (k.sent + 1)) = W3 at *
      have hc := h3.blk.cell
      unfold rhCells at hc
      simp only at hc
      go_wp2_with fail
      go_big_quiet (fail)
      have t4 := RHTo.trans hI t3 (RHTo.ofBelow t3.is_ (belowN (Below.refl _ W3) nq))
      generalize W3.drewN nq = W4 at *
      clear hc h3 t3
      go_wp2_with fail
      refine (rhLatch_any B b { k with sent := k.sent + 1 } _ 80 W4 (by decide) t4.is_ (by simp only; omega)).mono ?_
      rintro e W8 ⟨rfl, t8⟩
      have t8' := RHTo.trans hI t4 t8
      obtain ⟨A8, c8, vv8, val8, h8⟩ := t8'.is_
      have hc8 := h8.blk.cell
      unfold rhCells at hc8
      go_wp2_with fail
      refine (rvRun_any b 8 _ _ _ _ _ vv8 W8 false h8.valveBlk rfl).mono ?_
      rintro e W9 ⟨rfl, hv9⟩
      have h9 := h8.onValve hv9 (run_val _ false vv8)
      have hk9 : Keep F w W9 := t8'.keep.andThen hv9.2.1 (fun x _ hx => hx ▸ hH.fb)
      have hz9 := hv9.2.2
      have Hz9 := Lib.hid hz9
      clear hc8 hz9 hv9
      have hB9 := h9.blk
      have hc9 := hB9.cell
      have hf9 := hB9.frozen
      have h10 : RHAt B (W9.setCell ⟨b, 15, none⟩ (.int .i64 5)) b { (({ k with sent := k.sent + 1 } : HostM).trip 80).run false with state := 5 } (grow F w W8) A8 c8 _ val8 :=
        h9.upd ((Keep.refl (fun x => x = b) W9).setCell (p := ⟨b, 15, none⟩) (fun _ => rfl) _) (by simp [World.setCell]) (by simpa [rhCells, HostM.run] using hB9.set_ 15 (.int .i64 5)) rfl rfl rfl
      have hz10 : (W9.setCell ⟨b, 15, none⟩ (.int .i64 5)).heap.size = W9.heap.size := by simp [World.setCell]
      have hz9' := Hz9.out
      have t10 : RHTo B w b { (({ k with sent := k.sent + 1 } : HostM).trip 80).run false with state := 5 } F (W9.setCell ⟨b, 15, none⟩ (.int .i64 5)) :=
        hH.toIs h10 (fun x hx => hx.elim .inl (fun hx => .inr ⟨hx.1, by have h2 := hx.2; omega⟩)) (hk9.setCell (p := ⟨b, 15, none⟩) (fun _ => hH.fb) _)
      clear hz10 hz9'
      unfold rhCells at hc9
      go_upto_region 26 with fail
      have e1 : ({ (({ k with sent := k.sent + 1 } : HostM).trip 80).run false with state := 5 } : HostM).session = k.session := rfl
      have e2 : ({ (({ k with sent := k.sent + 1 } : HostM).trip 80).run false with state := 5 } : HostM).sent = k.sent + 1 := rfl
      have e3 : ({ (({ k with sent := k.sent + 1 } : HostM).trip 80).run false with state := 5 } : HostM).p = k.p := rfl
      have e4 : k.frame 5 k.session (k.sent + 1) 0 [] = ({ (({ k with sent := k.sent + 1 } : HostM).trip 80).run false with state := 5 } : HostM).frame 5 k.session (k.sent + 1) 0 [] := rfl
      have He4 := Lib.hid e4
      have He1 := Lib.hid e1
      have He2 := Lib.hid e2
      have hpK : ({ (({ k with sent := k.sent + 1 } : HostM).trip 80).run false with state := 5 } : HostM).p.Ok := hp
      clear e1 e2 e3 e4 hc9 hf9 hB9 h9 hk9 h8 t8' t8 t4
      generalize W9.setCell ⟨b, 15, none⟩ (.int .i64 5) = W10 at *
      obtain ⟨KK, hKK⟩ : ∃ K : HostM, K = { (({ k with sent := k.sent + 1 } : HostM).trip 80).run false with state := 5 } := ⟨_, rfl⟩
      rw [← hKK] at h10 t10 He1 He2 He4 hpK
      obtain ⟨AX, cX, vvX, valX, hX⟩ := t10.is_
      have hsX := t10.keep.size
      replace hX := hX.drew
      have hbH := hX.blk
      have hbx := (Below.refl W10.heap.size W10).drew
      have HKK := Lib.hid hKK
      clear hKK
      go_wp2_with fail
      go_region_held3 (fun w' => w'.cell? ⟨b, 16, none⟩ = some (.int .u32 k.session) ∧ w'.cell? ⟨b, 18, none⟩ = some (.int .u32 (k.sent + 1))) (exact rhS9 hbH He1.out He2.out) (first
        | (go_at_call 46; refine (rhFrame_any b KK _ _ _ 5 k.session (k.sent + 1) 0 [] none 0 0 0 _ hbH hpK rfl hsr hn1 Reads.none_ (Nat.zero_le _)).mono ?_; rintro e W4 ⟨v4, rfl, hown4, hb4⟩; obtain ⟨A4, c4, hv4⟩ := own_slice hown4; subst hv4; replace hX := hX.below hb4; clear hbH; have hbH := hX.blk; replace hbx := hbx.trans (hb4.mono hbx.size)))
      go_wp2_with fail
      refine bodyPost_ret (v := .tuple #[.slice A4 (KK.frame 5 k.session (k.sent + 1) 0 []).length c4, .int .i64 0]) (by simp [results, Tryz.results20, go_sem]) rfl ?_
      rw [He4.out, ← HKK.out]
      exact ⟨_, rfl, own_base hown4 hsX, RHTo.trans hI t10 (RHTo.ofBelow t10.is_ hbx)⟩
    · have hqb : (k.sent + 1 == k.p.count) = false := by simpa using hq
      have hcm : cm = ({ k with sent := k.sent + 1 }, k.frame 4 k.session (k.sent + 1) (flagsM k.valve k.hold) k.value) := by
        rw [Hcm.out]
        unfold HostM.compose
        rw [if_neg s1, if_neg s2, if_neg s3]
        simp only
        rw [if_neg hq]
        rfl
      subst hcm
      clear Hcm hq s1 s2 s3 s4 hst
      go_upto_region 22 with fail
      clear hc hf2 h2 hk2
      generalize W2.setCell ⟨b, 18, none⟩ (.int .u32 (k.sent + 1)) = W3 at *
      have hc := h3.blk.cell
      unfold rhCells at hc
      simp only at hc
      go_wp2_with fail
      go_big_quiet (fail)
      have t4 := RHTo.trans hI t3 (RHTo.ofBelow t3.is_ (belowN (Below.refl _ W3) nq))
      generalize W3.drewN nq = W4 at *
      clear hc h3 t3
      obtain ⟨AX, cX, vvX, valX, hX⟩ := t4.is_
      have hsX := t4.keep.size
      obtain ⟨Ay, cy, rfl⟩ := own_slice hX.value
      replace hX := hX.drew
      have hbH := hX.blk
      have hbx := (Below.refl W4.heap.size W4).drew
      have hvX := hX.valveBlk
      simp only at hvX
      rw [HN.out] at hvX
      have hvl := hX.vval
      simp only at hvl
      have hq4 : k.frame 4 k.session (k.sent + 1) (flagsM k.valve k.hold) k.value = ({ k with sent := k.sent + 1 } : HostM).frame 4 k.session (k.sent + 1) (flagsM k.valve k.hold) k.value := rfl
      have Hq4 := Lib.hid hq4
      clear hq4
      go_wp2_with fail
      go_region_held3 (fun w' => w'.cell? ⟨b, 16, none⟩ = some (.int .u32 k.session) ∧ w'.cell? ⟨b, 18, none⟩ = some (.int .u32 (k.sent + 1)) ∧ w'.cell? ⟨b, 22, none⟩ = some (.bool k.hold) ∧ w'.cell? ⟨b, 21, none⟩ = some (.slice Ay k.value.length cy)) (exact rhS8 hbH) (first
        | (go_at_call 48; refine (r13flags_any b 8 _ _ _ N k.valve vvX k.hold _ hvX rfl hvl hN8 Hvv.out).mono ?_; rintro e W5 ⟨rfl, hb5⟩; replace hX := hX.below hb5; clear hbH; have hbH := hX.blk; replace hbx := hbx.trans (hb5.mono hbx.size))
        | (go_at_call 46; refine (rhFrame_any b { k with sent := k.sent + 1 } _ _ _ 4 k.session (k.sent + 1) (flagsM k.valve k.hold) k.value Ay k.value.length cy _ _ hbH hp rfl hsr hn1 (Reads.of_own hX.value) (Nat.le_refl _)).mono ?_; rintro e W6 ⟨v4, rfl, hown4, hb4⟩; obtain ⟨A4, c4, hv4⟩ := own_slice hown4; subst hv4; have hs5 := hbx.size; replace hX := hX.below hb4; clear hbH; have hbH := hX.blk; replace hbx := hbx.trans (hb4.mono hbx.size)))
      go_wp2_with fail
      refine bodyPost_ret (v := .tuple #[.slice A4 (({ k with sent := k.sent + 1 } : HostM).frame 4 k.session (k.sent + 1) (flagsM k.valve k.hold) k.value).length c4, .int .i64 0]) (by simp [results, Tryz.results20, go_sem]) rfl ?_
      rw [Hq4.out]
      exact ⟨_, rfl, own_base hown4 (by omega), RHTo.trans hI t4 (RHTo.ofBelow t4.is_ hbx)⟩
end Go.Proofs.YtfoldlbnkfnenaaGreat
/- The law's step (parapetlaw14.step): one call, on both. -/
namespace Go.Proofs.YtfoldlbnkfnenaaGreat
open Go.RowKit
set_option maxHeartbeats 10000000
set_option maxRecDepth 100000

theorem rhResetTo_any (B b : Nat) (m : HostM) (F : Nat → Prop) (w : World) (h0 : RHIs B w b m F) (hp : m.p.lawful = true) :
    Calls Tryz.prog 40 #[.pointer (some ⟨b, 0, none⟩)] w fun e w' => e = .returned (.tuple #[]) ∧ RHTo B w b m.reset F w' := by
  obtain ⟨A, c, vv, val, hH⟩ := h0
  refine (rhReset_any B b m.p m.log A c F _ _ _ _ _ _ _ _ _ _ _ _ _ _ _ _ _ w hp hH.blk hH.log hH.fb hH.fl hH.lo).mono ?_
  rintro e w' ⟨rfl, hI, hk⟩
  exact ⟨rfl, hI, hk.mono (fun x _ e => e ▸ hH.fb)⟩
/-- Both hosts play the same. -/
structure Both (B : Nat) (w : World) (a b : Nat) (m : HostM) : Prop where
  pair : ∃ F1 F2, Pair B w a b m m F1 F2
theorem Pair.toHost {B a b : Nat} {w w' : World} {m1 m2 m1' : HostM} {F1 F2 : Nat → Prop} (h : Pair B w a b m1 m2 F1 F2) (t : HostTo B w a m1' F1 w') : ∃ F, Pair B w' a b m1' m2 F F2 := ⟨_, h.onHost t⟩
theorem stepS {w : World} {o0 : Nat} {x1 x3 x4 : Value} {x0 x2 x5 x6 : Value} (h : Blk w o0 48 #[x0, x1, x2, x3, x4, x5, x6]) :
    w.cell? ⟨o0, 1, none⟩ = some x1 ∧ w.cell? ⟨o0, 3, none⟩ = some x3 ∧ w.cell? ⟨o0, 4, none⟩ = some x4 :=
  ⟨(h.cell 1).trans rfl, (h.cell 3).trans rfl, (h.cell 4).trans rfl⟩
theorem stepS34 {w : World} {o0 : Nat} {x1 x3 x4 : Value} {x0 x2 x5 x6 : Value} (h : Blk w o0 48 #[x0, x1, x2, x3, x4, x5, x6]) :
    w.cell? ⟨o0, 3, none⟩ = some x3 ∧ w.cell? ⟨o0, 4, none⟩ = some x4 := ⟨(h.cell 3).trans rfl, (h.cell 4).trans rfl⟩
theorem Reads.keepP {w w' : World} {B size n : Nat} {A : Option Addr} {xs : List Value} {S : Nat → Prop} (h : Reads w B size A n xs) (hk : Keep S w w') (hB : B ≤ w.heap.size) (hA : 0 < n → ∀ ad, A = some ad → ¬ S ad.block) : Reads w' B size A n xs := by
  refine ⟨h.1, fun hn => ?_⟩
  obtain ⟨ad, e, hb, hc⟩ := h.2 hn
  refine ⟨ad, e, hb, fun j u hu => ?_⟩
  rw [World.cell?_of_block (hk.block (ad.add j).block (by rw [block_of_add]; omega) (by rw [block_of_add]; exact hA hn ad e))]
  exact hc j u hu
theorem reads_nn {w : World} {B n size : Nat} {A : Option Addr} {xs : List Value} (h : Reads w B size A n xs) (e : A = none) : n = 0 := by
  rcases Nat.eq_zero_or_pos n with h0 | h0
  · exact h0
  · obtain ⟨ad, h, _⟩ := h.2 h0
    rw [e] at h
    cases h
theorem burst_length {b x : List UInt8} {at_ word : Int} (h : burstM b at_ word = some x) : x.length = b.length := by
  unfold burstM at h
  simp only at h
  split at h
  · cases h
  · injection h with h
    subst h
    exact turnTo_length _ _ _ _ _
theorem frameM_len {m : HostM} {o : OpM} {f : List UInt8} (h : frameM m o = some f) (hod : o.data.length ≤ 140737488351232) : f.length ≤ 140737488351232 := by
  unfold frameM at h
  split at h
  · injection h with h
    subst h
    exact hod
  split at h
  · injection h with h
    subst h
    have := encode_small (unitOp m o)
    omega
  split at h
  · injection h with h
    subst h
    have := encode_small (unitOp m o)
    cases hb : burstM (unitOp m o).encode o.at_ o.word with
    | none => simp only [Option.getD_none]; omega
    | some x => have := burst_length hb; simp only [Option.getD_some]; omega
  · cases h
/-- A host behind one call, by its frame. -/
def stepBy (m : HostM) (o : OpM) : Option (List UInt8) → HostM
  | some b => (m.receive b).1
  | none => if o.kind = 8 then (m.tick o.n).1 else if o.kind = 9 then (m.write o.data o.odd).1 else if o.kind = 10 then m.ack.1 else if o.kind = 11 then m.reset else if o.kind = 12 then m.send.1 else m
theorem stepM_by (m : HostM) (o : OpM) : stepM m o = stepBy m o (frameM m o) := rfl
theorem l14step_any (B a b : Nat) (m : HostM) (F1 F2 : Nat → Prop) (o : OpM) (A : Option Addr) (c : Nat) (w : World) (hP : Pair B w a b m m F1 F2) (hg : m.Good) (hlen : m.log.length < 1073741600) (ho : o.Ok) (hr : Reads w w.heap.size 1 A o.data.length (u8c o.data)) (hdj : 0 < o.data.length → ∀ ad, A = some ad → ¬ F1 ad.block ∧ ¬ F2 ad.block) (hoc : o.data.length ≤ c) (hod : o.data.length ≤ 140737488351232) :
    Calls Tryz.prog 26 #[.pointer (some ⟨a, 0, none⟩), .pointer (some ⟨b, 0, none⟩), opVal o (.slice A o.data.length c)] w fun e w' => e = .returned (.bool true) ∧ ∃ F1' F2', Run B w F1 F2 w' a b (stepM m o) (stepM m o) F1' F2' := by
  obtain ⟨kind, on_, flags, odd, data, at_, word⟩ := o
  simp only at *
  have hB := hP.host.Ble
  have hi := hg.inv
  have hbO := (Below.refl w.heap.size w).alloc (Nat.le_refl _) (.cells #[.int .i64 kind, .int .i64 on_, .int .i64 flags, .bool odd, .slice A data.length c, .int .i64 at_, .int .u32 word] 48)
  have hO := Blk.new w 48 #[.int .i64 kind, .int .i64 on_, .int .i64 flags, .bool odd, .slice A data.length c, .int .i64 at_, .int .u32 word]
  have hP1 := (Run.start hP).below hbO
  have hr1 := hr.below hbO
  have hs1 := hbO.size
  have hfr := l14Frame_any B b m F2 ⟨kind, on_, flags, odd, data, at_, word⟩ A c w.heap.size _ hP1.pair.ref hi ho hr1 (by omega) hoc hod
  obtain ⟨q, Hq⟩ : ∃ q, Hid (q = stepM m ⟨kind, on_, flags, odd, data, at_, word⟩) := ⟨_, Lib.hid rfl⟩
  rw [← Hq.out]
  unfold opVal at *
  simp only at hfr
  go_enter Tryz.func26, Tryz.ntmps26
  go_upto_region 1 with fail
  obtain ⟨o0, Ho0⟩ : ∃ e, Hid (e = w.heap.size) := ⟨_, Lib.hid rfl⟩
  rw [← Ho0.out] at hO ⊢
  generalize w.alloc (.cells _ 48) = W1 at *
  have hoc1 := hO.cell
  obtain ⟨r, Hr⟩ : ∃ r, Hid (r = frameM m ⟨kind, on_, flags, odd, data, at_, word⟩) := ⟨_, Lib.hid rfl⟩
  rw [← Hr.out] at hfr
  have hstep : q = stepBy m ⟨kind, on_, flags, odd, data, at_, word⟩ r := by rw [Hq.out, Hr.out]; rfl
  have Hst := Lib.hid hstep
  clear hstep Hq
  go_wp2_with fail
  refine hfr.mono ?_
  rintro e W2 ⟨v2, rfl, hn2, hs2, hb2⟩
  have hP2 := hP1.below hb2
  have hO2 := hO.below hb2 hO.lt
  have hbO2 := hbO.trans (hb2.mono hs1)
  have hr2 := hr1.below (hb2.mono hs1)
  clear hoc1 hfr hP1 hr1
  cases r with
  | some f =>
    have hown2 := hs2 f rfl
    have hf := frameM_len Hr.out.symm hod
    have hq : q = (m.receive f).1 := Hst.out
    subst hq
    clear Hst hn2 hs2
    obtain ⟨A2, c2, rfl⟩ := own_slice hown2
    obtain ⟨i0, hi0, hz0, hz1, hz2⟩ := info_parts byte_info
    go_wp2_with (at_builtin; refine wpList_append_any _ rfl (.tmp 21) (.tmp 22) _ rfl W2.heap.size 5 i0 _ 1 1 Tryz.underlying22 hi0 hz0 hz1 hz2 rfl (by omega) (.slice (some ⟨W2.heap.size, 0, none⟩) 0 0) 0 [] rfl (World.ownsRow_made W2 #[] 0 (Nat.le_refl _) (by unfold maxLen; omega) rfl) W2.heap.size A2 f.length c2 (u8c f) rfl ((Reads.of_own hown2).alloc (Nat.le_refl _) _) (u8c_one f) (by unfold maxLen; omega) (by omega) (by simp) ?_; intro v3 W3 hown3 hg3 hat3; rw [Nat.zero_add, List.nil_append] at hown3; obtain ⟨A3, c3, rfl⟩ := own_slice hown3)
    have hb3 := ((Below.refl W2.heap.size W2).alloc (Nat.le_refl _) (.cells #[] 5)).grown hg3 (by simp) (fun k hk => by simp [Value.ownBlock] at hk; omega)
    have hP3 := hP2.below hb3
    have hr3 := (Reads.of_own hown2).below hb3
    clear hg3 hat3
    refine (hostReceive_any f.length f hP3.pair.host hg (by omega) (Reads.of_own hown3) (Nat.le_refl _) (own_cap hown3) (by omega)).mono ?_
    rintro e W4 ⟨rfl, t4⟩
    have hP4 := hP3.onHost t4
    have hlt2 := hown2.lt
    have hr4 := hr3.keepS t4.keep hb3.size (fun ad e hx => by subst e; have h1 := (hlt2 ad.block rfl).1; have h2 := (hP.host.lo ad.block hx).2; omega)
    have hB2 := hbO2.size
    have hB3 := hb3.size
    have hB4 := t4.keep.size
    go_wp2_with fail
    refine (rhReceive_any f.length f hP4.pair.ref hg (by omega) hr4 (by omega) (own_cap hown2)).mono ?_
    rintro e W5 ⟨rfl, t5⟩
    have hP5 := hP4.onRef t5
    go_wp2_with fail
    go_ret
    exact ⟨rfl, _, _, hP5⟩
  | none =>
    have hv2 := hn2 rfl
    subst hv2
    have hq : q = if kind = 8 then (m.tick on_).1 else if kind = 9 then (m.write data odd).1 else if kind = 10 then m.ack.1 else if kind = 11 then m.reset else if kind = 12 then m.send.1 else m := Hst.out
    clear Hst hn2 hs2 Hr
    have ho1 : ∀ x, F1 x → x ≠ o0 := fun x hx e => by have h1 := (hP.host.lo x hx).2; have h2 := Ho0.out; omega
    have ho2 : ∀ x, F2 x → x ≠ o0 := fun x hx e => by have h1 := (hP.ref.lo x hx).2; have h2 := Ho0.out; omega
    have hB2 := hbO2.size
    have hBW : B ≤ W2.heap.size := by omega
    have hoc2 := hO2.cell
    by_cases k8 : kind = 8
    · subst k8
      rw [if_pos rfl] at hq
      subst hq
      go_upto_region 6 with fail
      clear hoc2
      replace hO2 := hO2.drew
      replace hP2 := hP2.below (Below.refl W2.heap.size W2).drew
      go_wp2_with fail
      go_region_held (fun w' => w'.cell? ⟨o0, 1, none⟩ = some (.int .i64 on_)) (exact (hO2.cell 1).trans rfl) (first
        | (go_at_call 34; refine (hostTick_any B a m F1 on_ _ hP2.pair.host hi (by omega)).mono ?_; rintro e W3 ⟨rfl, t3⟩; replace hO2 := hO2.keep t3.keep (fun h => ho1 _ h rfl); replace hP2 := hP2.onHost t3; clear t3)
        | (go_at_call 59; refine (rhTick_any B b m F2 on_ _ hP2.pair.ref hi (by omega)).mono ?_; rintro e W4 ⟨rfl, t4⟩; replace hO2 := hO2.keep t4.keep (fun h => ho2 _ h rfl); replace hP2 := hP2.onRef t4; clear t4))
      go_wp2_with fail
      go_ret
      exact ⟨rfl, _, _, hP2⟩
    have g8 : (kind == 8) = false := by simpa using k8
    rw [if_neg k8] at hq
    by_cases k9 : kind = 9
    · subst k9
      rw [if_pos rfl] at hq
      subst hq
      have hout : m.p.out ≤ 8 := by have h := hi.plaw; simp [ParM.lawful] at h; omega
      obtain ⟨i0, hi0, hz0, hz1, hz2⟩ := info_parts byte_info
      go_upto_region 8 with fail
      clear hoc2
      go_wp2_with fail
      go_region_held3 (fun w' => w'.cell? ⟨o0, 3, none⟩ = some (.bool odd) ∧ w'.cell? ⟨o0, 4, none⟩ = some (.slice A data.length c)) (with_reducible (first | exact stepS34 hO2 | exact stepS34 (hO2.alloc _) | exact stepS34 hO2.drew | exact stepS34 (hO2.alloc _).drew)) (first
        | (refine step_append_any _ rfl (.tmp 45) (.tmp 47) _ rfl W2.heap.size 5 i0 _ 1 1 Tryz.underlying22 hi0 hz0 hz1 hz2 rfl (by omega) (.slice (some ⟨W2.heap.size, 0, none⟩) 0 0) 0 [] rfl (World.ownsRow_made W2 #[] 0 (Nat.le_refl _) (by unfold maxLen; omega) rfl).drew w.heap.size A data.length c (u8c data) rfl (hr2.alloc hB2 _).drew (u8c_one data) (by unfold maxLen; omega) (by omega) (by simp) ?_; intro v3 W3 hown3 hg3 hat3; rw [Nat.zero_add, List.nil_append] at hown3; obtain ⟨A3, c3, rfl⟩ := own_slice hown3; have hb3 := ((Below.refl W2.heap.size W2).alloc (Nat.le_refl _) (.cells #[] 5)).drew.grown hg3 (by simp) (fun k hk => by simp [Value.ownBlock] at hk; omega); replace hO2 := hO2.below hb3 hO2.lt; replace hP2 := hP2.below hb3; replace hr2 := hr2.below (hb3.mono hB2); replace hB2 := Nat.le_trans hB2 hb3.size)
        | (go_at_call 16; refine (hostWrite_any B a m F1 A3 data.length c3 W3.heap.size data odd _ hP2.pair.host (Reads.of_own hown3) (Nat.le_refl _) (fun e => reads_nn (Reads.of_own hown3) e) hout).mono ?_; rintro e W4 ⟨rfl, t4⟩; replace hO2 := hO2.keep t4.keep (fun h => ho1 _ h rfl); replace hr2 := hr2.keepP t4.keep hB2 (fun h ad e => (hdj h ad e).1); replace hB2 := Nat.le_trans hB2 t4.keep.size; replace hP2 := hP2.onHost t4; clear t4)
        | (go_at_call 17; refine (rhWrite_any B b m F2 A data.length c w.heap.size data odd _ hP2.pair.ref hr2 hB2 hout).mono ?_; rintro e W5 ⟨rfl, t5⟩; replace hO2 := hO2.keep t5.keep (fun h => ho2 _ h rfl); replace hP2 := hP2.onRef t5; clear t5))
      go_wp2_with fail
      go_ret
      exact ⟨rfl, _, _, hP2⟩
    have g9 : (kind == 9) = false := by simpa using k9
    rw [if_neg k9] at hq
    by_cases k10 : kind = 10
    · subst k10
      rw [if_pos rfl] at hq
      subst hq
      clear k8 k9 g8 g9
      go_wp2_with fail
      refine (hostAck_any B a m F1 _ hP2.pair.host).mono ?_
      rintro e W3 ⟨rfl, t3⟩
      replace hP2 := hP2.onHost t3
      go_wp2_with fail
      refine (rhAck_any B b m F2 _ hP2.pair.ref).mono ?_
      rintro e W4 ⟨rfl, t4⟩
      replace hP2 := hP2.onRef t4
      go_wp2_with fail
      go_ret
      exact ⟨rfl, _, _, hP2⟩
    have g10 : (kind == 10) = false := by simpa using k10
    rw [if_neg k10] at hq
    by_cases k11 : kind = 11
    · subst k11
      rw [if_pos rfl] at hq
      subst hq
      clear k8 k9 k10 g8 g9 g10
      go_wp2_with fail
      refine (rhResetTo_any B b m F2 _ hP2.pair.ref hi.plaw).mono ?_
      rintro e W3 ⟨rfl, t3⟩
      replace hP2 := hP2.onRef t3
      go_wp2_with fail
      refine (hostResetTo_any B a m F1 _ hP2.pair.host hi.plaw).mono ?_
      rintro e W4 ⟨rfl, t4⟩
      replace hP2 := hP2.onHost t4
      go_wp2_with fail
      go_ret
      exact ⟨rfl, _, _, hP2⟩
    have g11 : (kind == 11) = false := by simpa using k11
    rw [if_neg k11] at hq
    by_cases k12 : kind = 12
    · subst k12
      rw [if_pos rfl] at hq
      subst hq
      clear k8 k9 k10 k11 g8 g9 g10 g11
      go_wp2_with fail
      refine (hostSend_any B a m F1 _ hP2.pair.host hi (by omega)).mono ?_
      rintro e W3 ⟨x3, rfl, hown3, t3⟩
      obtain ⟨A3, c3, rfl⟩ := own_slice hown3
      replace hP2 := hP2.onHost t3
      go_wp2_with fail
      refine (rhSend_any B b m F2 _ hP2.pair.ref hg (by omega)).mono ?_
      rintro e W4 ⟨x4, rfl, hown4, t4⟩
      obtain ⟨A4, c4, rfl⟩ := own_slice hown4
      have hr3 := (Reads.of_own hown3).keepS t4.keep (Nat.le_refl _) (fun ad e hx => by subst e; have h1 := (hown3.lt ad.block rfl).1; have h2 := (hP.ref.lo ad.block hx).2; omega)
      have hcv3 := conv_reads (c := c3) hr3
      have hcv4 := conv_reads (c := c4) (Reads.of_own hown4)
      replace hP2 := hP2.onRef t4
      clear t3 t4 hr3
      generalize m.send.2.1 = fr at *
      generalize m.send.2.2 = er at *
      go_wp2_with fail
      go_ret
      exact ⟨rfl, _, _, hP2⟩
    have g12 : (kind == 12) = false := by simpa using k12
    rw [if_neg k12] at hq
    subst hq
    clear k8 k9 k10 k11 k12
    go_wp2_with fail
    go_ret
    exact ⟨rfl, _, _, hP2⟩
end Go.Proofs.YtfoldlbnkfnenaaGreat
/- What the calls do to a host, case by case: plain. -/
namespace Go.Proofs.YtfoldlbnkfnenaaGreat

/-- What a frame does to a host. -/
inductive Came (m : HostM) (b : List UInt8) : HostM → Int → Prop where
  | no (c : Int) (h : c ≠ 0) : Came m b { m with log := noteM m.log c m.session m.number } c
  | offer (h0 : (decodeM b).2 = 0) (hs : m.state = 1) (hk : (decodeM b).1.kind = 17) (hu : m.session < (decodeM b).1.session) (hd : (decodeM b).1.data = m.p.sign) : Came m b ({ m with session := (decodeM b).1.session, state := 2 } : HostM).alive 0
  | agreed (h0 : (decodeM b).2 = 0) (hs : m.state = 2) (hk : (decodeM b).1.kind = 18) : Came m b ({ m with state := 3 } : HostM).alive 0
  | started (h0 : (decodeM b).2 = 0) (hs : m.state = 3) (hk : (decodeM b).1.kind = 19) : Came m b (({ m with state := 4 } : HostM).run true).alive 0
  | data (h0 : (decodeM b).2 = 0) (hs : m.state = 4) (hk : (decodeM b).1.kind = 20) (hu : (decodeM b).1.session = m.session) (hn : m.number < (decodeM b).1.number) (hc : (decodeM b).1.number < m.p.count) (hl : ((decodeM b).1.data.length : Int) = m.p.inn) :
      Came m b { ({ m with number := (decodeM b).1.number } : HostM).alive with valve := (((({ m with number := (decodeM b).1.number } : HostM).alive).valve.hold (decide (8 ≤ (decodeM b).1.flags))).take (decodeM b).1.data) } 0
  | last (h0 : (decodeM b).2 = 0) (hs : m.state = 4) (hk : (decodeM b).1.kind = 21) (hu : (decodeM b).1.session = m.session) (hn : m.number < (decodeM b).1.number) (hc : (decodeM b).1.number = m.p.count) :
      Came m b { (((({ m with number := (decodeM b).1.number } : HostM).alive).trip 80).run false) with state := 5 } 0
theorem receive_no {m : HostM} {b : List UInt8} {c : Int} (h : m.read b = (m, c)) (hc : c ≠ 0) : Came m b (m.receive b).1 (m.receive b).2 := by
  have e : m.receive b = ({ m with log := noteM m.log c m.session m.number }, c) := by
    unfold HostM.receive
    simp only [h, hc, if_false]
  rw [e]
  exact .no c hc
theorem receive_ok {m m' : HostM} {b : List UInt8} (h : m.read b = (m', 0)) : m.receive b = (m', 0) := by
  unfold HostM.receive
  simp only [h, if_true]
theorem receive_came (m : HostM) (b : List UInt8) : Came m b (m.receive b).1 (m.receive b).2 := by
  by_cases h0 : (decodeM b).2 = 0
  case neg => exact receive_no (c := (decodeM b).2) (by unfold HostM.read; simp only; rw [if_pos h0]) h0
  by_cases h1 : isDev (decodeM b).1.kind = true
  case neg => exact receive_no (c := 43) (by unfold HostM.read; simp only; rw [if_neg (by simpa using h0), if_pos (by simpa using h1)]) (by decide)
  by_cases h2 : (decodeM b).1.code = m.p.code
  case neg => exact receive_no (c := 44) (by unfold HostM.read; simp only; rw [if_neg (by simpa using h0), if_neg (by simpa using h1), if_pos h2]) (by decide)
  have hr : m.read b = m.take (decodeM b).1 := by unfold HostM.read; simp only; rw [if_neg (by simpa using h0), if_neg (by simpa using h1), if_neg (by simpa using h2)]
  by_cases hs1 : m.state = 1
  · by_cases k : (decodeM b).1.kind ≠ 17 ∨ (decodeM b).1.session ≤ m.session
    · exact receive_no (c := 130) (by rw [hr]; unfold HostM.take; rw [if_pos hs1, if_pos k]) (by decide)
    by_cases d : (decodeM b).1.data ≠ m.p.sign
    · exact receive_no (c := 91) (by rw [hr]; unfold HostM.take; rw [if_pos hs1, if_neg k, if_pos d]) (by decide)
    have e := receive_ok (m' := ({ m with session := (decodeM b).1.session, state := 2 } : HostM).alive) (by rw [hr]; unfold HostM.take; rw [if_pos hs1, if_neg k, if_neg d])
    rw [e]
    have k' := not_or.1 k
    exact .offer h0 hs1 (by simpa using k'.1) (by omega) (by simpa using d)
  by_cases k0 : (decodeM b).1.session ≠ m.session ∨ m.state = 5
  · exact receive_no (c := 130) (by rw [hr]; unfold HostM.take; rw [if_neg hs1, if_pos k0]) (by decide)
  have k0' := not_or.1 k0
  have hu : (decodeM b).1.session = m.session := by simpa using k0'.1
  by_cases k2 : m.state = 2 ∧ (decodeM b).1.kind = 18
  · have e := receive_ok (m' := ({ m with state := 3 } : HostM).alive) (by rw [hr]; unfold HostM.take; rw [if_neg hs1, if_neg k0, if_pos k2])
    rw [e]
    exact .agreed h0 k2.1 k2.2
  by_cases k3 : m.state = 3 ∧ (decodeM b).1.kind = 19
  · have e := receive_ok (m' := (({ m with state := 4 } : HostM).run true).alive) (by rw [hr]; unfold HostM.take; rw [if_neg hs1, if_neg k0, if_neg k2, if_pos k3])
    rw [e]
    exact .started h0 k3.1 k3.2
  by_cases k4 : m.state = 4 ∧ (decodeM b).1.kind = 20 ∧ m.number < (decodeM b).1.number ∧ (decodeM b).1.number < m.p.count ∧ ((decodeM b).1.data.length : Int) = m.p.inn
  · have e := receive_ok (m' := { ({ m with number := (decodeM b).1.number } : HostM).alive with valve := (((({ m with number := (decodeM b).1.number } : HostM).alive).valve.hold (decide (8 ≤ (decodeM b).1.flags))).take (decodeM b).1.data) }) (by rw [hr]; unfold HostM.take; rw [if_neg hs1, if_neg k0, if_neg k2, if_neg k3, if_pos k4])
    rw [e]
    exact .data h0 k4.1 k4.2.1 hu k4.2.2.1 k4.2.2.2.1 k4.2.2.2.2
  by_cases k5 : m.state = 4 ∧ (decodeM b).1.kind = 21 ∧ m.number < (decodeM b).1.number ∧ (decodeM b).1.number = m.p.count
  · have e := receive_ok (m' := { (((({ m with number := (decodeM b).1.number } : HostM).alive).trip 80).run false) with state := 5 }) (by rw [hr]; unfold HostM.take; rw [if_neg hs1, if_neg k0, if_neg k2, if_neg k3, if_neg k4, if_pos k5])
    rw [e]
    exact .last h0 k5.1 k5.2.1 hu k5.2.2.1 k5.2.2.2
  · exact receive_no (c := 130) (by rw [hr]; unfold HostM.take; rw [if_neg hs1, if_neg k0, if_neg k2, if_neg k3, if_neg k4, if_neg k5]) (by decide)

/-- What is lost at a sending: nothing but a count, or the session. -/
theorem lost_cases (m : HostM) : (∃ k, m.lost = { m with missed := k } ∧ (k = m.missed ∨ (m.state ≠ 1 ∧ m.waits = true ∧ k = m.missed + 1 ∧ k < 4))) ∨
    (m.state ≠ 1 ∧ m.waits = true ∧ 4 ≤ m.missed + 1 ∧ ∃ k, m.lost = (if m.state = 4 then ({ m with missed := k } : HostM).trip 131 else { m with missed := k }).leave) := by
  unfold HostM.lost
  by_cases h : m.state = 1 ∨ m.waits = false
  · rw [if_pos h]
    exact .inl ⟨m.missed, rfl, .inl rfl⟩
  · rw [if_neg h]
    have h' := not_or.1 h
    simp only
    by_cases h4 : m.missed + 1 < 4
    · rw [if_pos h4]
      exact .inl ⟨m.missed + 1, rfl, .inr ⟨h'.1, by simpa using h'.2, rfl, h4⟩⟩
    · rw [if_neg h4]
      exact .inr ⟨h'.1, by simpa using h'.2, by omega, m.missed + 1, rfl⟩
/-- The unit that a host sends. -/
def HostM.sends (g : HostM) : UnitM :=
  if g.state = 1 then ⟨1, g.p.code, 0, 0, 0, g.p.sign⟩ else if g.state = 2 then ⟨2, g.p.code, g.session, 0, 0, g.p.sign⟩ else if g.state = 3 then ⟨3, g.p.code, g.session, 0, 0, []⟩
  else if g.sent + 1 = g.p.count then ⟨5, g.p.code, g.session, g.sent + 1, 0, []⟩ else ⟨4, g.p.code, g.session, g.sent + 1, flagsM g.valve g.hold, g.value⟩
/-- The host behind it. -/
def HostM.sent' (g : HostM) : HostM :=
  if g.state ≤ 3 then g else if g.sent + 1 = g.p.count then { (({ g with sent := g.sent + 1 } : HostM).trip 80).run false with state := 5 } else { g with sent := g.sent + 1 }
theorem compose_eq (g : HostM) (h : 1 ≤ g.state) : g.compose = (g.sent', g.sends.encode) := by
  unfold HostM.compose HostM.sent' HostM.sends HostM.frame
  by_cases h1 : g.state = 1
  · simp [h1]
  by_cases h2 : g.state = 2
  · simp [h2]
  by_cases h3 : g.state = 3
  · simp [h3]
  have hn : ¬ g.state ≤ 3 := by omega
  rw [if_neg h1, if_neg h2, if_neg h3, if_neg hn, if_neg h1, if_neg h2, if_neg h3]
  simp only
  by_cases h4 : g.sent + 1 = g.p.count
  · rw [if_pos h4, if_pos h4, if_pos h4]
    have e1 : ∀ (x : HostM), (x.trip 80).session = x.session := fun x => by unfold HostM.trip; rfl
    have e2 : ∀ (x : HostM), (x.trip 80).p = x.p := fun x => by unfold HostM.trip; rfl
    have e3 : ∀ (x : HostM), (x.trip 80).sent = x.sent := fun x => by unfold HostM.trip; rfl
    simp only [HostM.run, e1, e2, e3]
  · rw [if_neg h4, if_neg h4, if_neg h4]
theorem send_eq (m : HostM) (h : m.state ≠ 5) (h1 : 1 ≤ m.lost.state) : m.send = ({ m.lost.sent' with waits := true }, m.lost.sends.encode, 0) := by
  unfold HostM.send
  rw [if_neg h, compose_eq _ h1]
theorem lost_same (m : HostM) : m.lost.p = m.p ∧ m.lost.session = m.session ∧ m.lost.value = m.value ∧ m.lost.hold = m.hold ∧ m.lost.since = m.since := by
  rcases lost_cases m with ⟨k, h, _⟩ | ⟨_, _, _, k, h⟩
  · rw [h]; exact ⟨rfl, rfl, rfl, rfl, rfl⟩
  · rw [h]; split <;> exact ⟨rfl, rfl, rfl, rfl, rfl⟩
/-- A session is a number that is not 0, but for an idle host. -/
def HostM.Live (m : HostM) : Prop := m.state ≠ 1 → 0 < m.session
theorem Live.lost {m : HostM} (h : m.Live) : m.lost.Live := by
  rcases lost_cases m with ⟨k, e, _⟩ | ⟨_, _, _, k, e⟩
  · rw [e]; exact h
  · rw [e]; intro hs; exact absurd rfl hs
theorem flagsM_ok (v : ValveM) (hold : Bool) : 0 ≤ flagsM v hold ∧ flagsM v hold ≤ 15 := by
  unfold flagsM
  split <;> split <;> split <;> split <;> omega
theorem sends_ok {g : HostM} (hi : g.Inv) (hl : g.Live) (h5 : g.state ≠ 5) : g.sends.lawful = 0 ∧ g.sends.Ok := by
  have hlaw := hi.plaw
  simp [ParM.lawful] at hlaw
  have hsl : g.p.sign.length = 4 := by simp [ParM.sign, wordOf]
  have hst := hi.state
  have hcode := hi.pok.code
  have hses := hi.session
  have hsent := hi.sent
  have hf := flagsM_ok g.valve g.hold
  have hv := hi.value
  unfold HostM.sends
  by_cases h1 : g.state = 1
  · rw [if_pos h1]
    exact ⟨by unfold UnitM.lawful; simp [isHost, isDev, dataOk, sessOk, numOk, flagOk, hsl, hlaw.1], ⟨hcode, by simp, by simp⟩⟩
  have hs0 := hl h1
  have hs00 : g.session ≠ 0 := by omega
  rw [if_neg h1]
  by_cases h2 : g.state = 2
  · rw [if_pos h2]
    exact ⟨by unfold UnitM.lawful; simp [isHost, isDev, dataOk, sessOk, numOk, flagOk, hsl, hlaw.1, hs00], ⟨hcode, hses, by simp⟩⟩
  rw [if_neg h2]
  by_cases h3 : g.state = 3
  · rw [if_pos h3]
    exact ⟨by unfold UnitM.lawful; simp [isHost, isDev, dataOk, sessOk, numOk, flagOk, hlaw.1, hs00], ⟨hcode, hses, by simp⟩⟩
  rw [if_neg h3]
  have hrun := hi.run (by omega)
  have hpc := hi.pok.count
  have hn0 : g.sent + 1 ≠ 0 := by omega
  by_cases h4 : g.sent + 1 = g.p.count
  · rw [if_pos h4]
    exact ⟨by unfold UnitM.lawful; simp [isHost, isDev, dataOk, sessOk, numOk, flagOk, hlaw.1, hs00, hn0], ⟨hcode, hses, ⟨by simp only; omega, by simp only; omega⟩⟩⟩
  · rw [if_neg h4]
    have hvl : 1 ≤ g.value.length ∧ g.value.length ≤ 8 := by omega
    exact ⟨by unfold UnitM.lawful; simp [isHost, isDev, dataOk, sessOk, numOk, flagOk, hlaw.1, hs00, hn0, hvl.1, hvl.2, hf.1, hf.2], ⟨hcode, hses, ⟨by simp only; omega, by simp only; omega⟩⟩⟩
/-- A sending, whole. -/
theorem send_whole {m : HostM} (hg : m.Good) (hl : m.Live) (h5 : m.state ≠ 5) : m.send = ({ m.lost.sent' with waits := true }, m.lost.sends.encode, 0) ∧ decodeM m.lost.sends.encode = (m.lost.sends, 0) ∧ m.lost.state ≠ 5 := by
  have hgl := hg.lost
  have hl5 : m.lost.state ≠ 5 := by
    rcases lost_cases m with ⟨k, e, _⟩ | ⟨_, _, _, k, e⟩
    · rw [e]; exact h5
    · rw [e]; simp [HostM.leave]
  have h := sends_ok hgl.inv (Live.lost hl) hl5
  exact ⟨send_eq m h5 hgl.inv.state.1, decode_encode h.1 h.2, hl5⟩
theorem send_done {m : HostM} (h5 : m.state = 5) : m.send = (m, [], 132) := by unfold HostM.send; rw [if_pos h5]
theorem trip_same (m : HostM) (c : Int) : (m.trip c).p = m.p ∧ (m.trip c).session = m.session ∧ (m.trip c).number = m.number ∧ (m.trip c).sent = m.sent ∧ (m.trip c).state = m.state ∧ (m.trip c).value = m.value ∧ (m.trip c).hold = m.hold ∧ (m.trip c).waits = m.waits ∧ (m.trip c).missed = m.missed ∧ (m.trip c).since = m.since := ⟨rfl, rfl, rfl, rfl, rfl, rfl, rfl, rfl, rfl, rfl⟩
theorem sent'_same (g : HostM) : g.sent'.p = g.p ∧ g.sent'.session = g.session ∧ g.sent'.value = g.value ∧ g.sent'.hold = g.hold ∧ g.sent'.number = g.number ∧ (g.sent'.state = g.state ∨ g.sent'.state = 5) := by
  unfold HostM.sent'
  split
  · exact ⟨rfl, rfl, rfl, rfl, rfl, .inl rfl⟩
  split
  · exact ⟨rfl, rfl, rfl, rfl, rfl, .inr rfl⟩
  · exact ⟨rfl, rfl, rfl, rfl, rfl, .inl rfl⟩
theorem Live.send {m : HostM} (hg : m.Good) (h : m.Live) : m.send.1.Live := by
  by_cases h5 : m.state = 5
  · rw [send_done h5]; exact h
  · obtain ⟨e, _, _⟩ := send_whole hg h h5
    rw [e]
    intro hs
    have h1 := sent'_same m.lost
    show 0 < m.lost.sent'.session
    rw [h1.2.1]
    refine Live.lost h ?_
    intro h0
    rcases h1.2.2.2.2.2 with h2 | h2
    · exact hs (h2.trans h0)
    · unfold HostM.sent' at h2
      rw [if_pos (by omega)] at h2
      omega
theorem tick_same (m : HostM) (n : Int) : (m.tick n).1.p = m.p ∧ (m.tick n).1.session = m.session ∧ (m.tick n).1.number = m.number ∧ (m.tick n).1.sent = m.sent ∧ (m.tick n).1.state = m.state ∧ (m.tick n).1.value = m.value ∧ (m.tick n).1.hold = m.hold ∧ ((m.tick n).1.valve = m.valve ∨ (m.tick n).1.valve = (m.valve.trip 100).1) := by
  unfold HostM.tick
  split
  · exact ⟨rfl, rfl, rfl, rfl, rfl, rfl, rfl, .inl rfl⟩
  · simp only
    split
    · exact ⟨rfl, rfl, rfl, rfl, rfl, rfl, rfl, .inr rfl⟩
    · exact ⟨rfl, rfl, rfl, rfl, rfl, rfl, rfl, .inl rfl⟩
theorem write_same (m : HostM) (b : List UInt8) (hold : Bool) : (m.write b hold).1.p = m.p ∧ (m.write b hold).1.session = m.session ∧ (m.write b hold).1.number = m.number ∧ (m.write b hold).1.sent = m.sent ∧ (m.write b hold).1.state = m.state ∧ (m.write b hold).1.valve = m.valve := by
  unfold HostM.write
  split <;> exact ⟨rfl, rfl, rfl, rfl, rfl, rfl⟩
theorem ack_same (m : HostM) : m.ack.1.p = m.p ∧ m.ack.1.session = m.session ∧ m.ack.1.number = m.number ∧ m.ack.1.sent = m.sent ∧ m.ack.1.state = m.state ∧ m.ack.1.value = m.value ∧ m.ack.1.hold = m.hold ∧ (m.ack.1.valve = m.valve ∨ m.ack.1.valve = m.valve.ack) := by
  unfold HostM.ack
  split
  · exact ⟨rfl, rfl, rfl, rfl, rfl, rfl, rfl, .inr rfl⟩
  · exact ⟨rfl, rfl, rfl, rfl, rfl, rfl, rfl, .inl rfl⟩
theorem came_live {m m' : HostM} {b : List UInt8} {c : Int} (h : m.Live) (hi : m.Inv) (k : Came m b m' c) : m'.Live := by
  cases k with
  | no c hc => exact h
  | offer h0 hs hk hu hd => intro _; have := hi.session.1; simp only [HostM.alive]; omega
  | agreed h0 hs hk => intro _; exact h (by omega)
  | started h0 hs hk => intro _; exact h (by omega)
  | data h0 hs hk hu hn hc hl => intro _; exact h (by omega)
  | last h0 hs hk hu hn hc => intro _; exact h (by omega)
theorem came_p {m m' : HostM} {b : List UInt8} {c : Int} (k : Came m b m' c) : m'.p = m.p ∧ m'.sent = m.sent ∧ m'.value = m.value ∧ m'.hold = m.hold := by
  cases k <;> exact ⟨rfl, rfl, rfl, rfl⟩
theorem step_live {m : HostM} (hg : m.Good) (h : m.Live) (o : OpM) : (stepM m o).Live := by
  unfold stepM
  split
  · exact came_live h hg.inv (receive_came m _)
  · split
    · have := tick_same m o.n; intro hs; rw [this.2.1]; exact h (by rw [← this.2.2.2.2.1]; exact hs)
    split
    · have := write_same m o.data o.odd; intro hs; rw [this.2.1]; exact h (by rw [← this.2.2.2.2.1]; exact hs)
    split
    · have := ack_same m; intro hs; rw [this.2.1]; exact h (by rw [← this.2.2.2.2.1]; exact hs)
    split
    · intro hs; exact absurd rfl hs
    split
    · exact Live.send hg h
    · exact h
theorem step_p (m : HostM) (hg : m.Good) (h : m.Live) (o : OpM) : (stepM m o).p = m.p := by
  unfold stepM
  split
  · exact (came_p (receive_came m _)).1
  · split
    · exact (tick_same m o.n).1
    split
    · exact (write_same m o.data o.odd).1
    split
    · exact (ack_same m).1
    split
    · rfl
    split
    · by_cases h5 : m.state = 5
      · rw [send_done h5]
      · rw [(send_whole hg h h5).1]
        show m.lost.sent'.p = m.p
        rw [(sent'_same m.lost).1, (lost_same m).1]
    · rfl
end Go.Proofs.YtfoldlbnkfnenaaGreat
