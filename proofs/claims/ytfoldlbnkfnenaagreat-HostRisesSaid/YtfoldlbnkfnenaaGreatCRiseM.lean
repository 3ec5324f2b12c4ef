/- What a host accepts rises: plain. -/
import Derived.Test.YtfoldlbnkfnenaaGreatCNumM
namespace Go.Proofs.YtfoldlbnkfnenaaGreat

/-- The valve runs while the host does; what is latched holds no value. -/
structure VInv (m : HostM) : Prop where
  run : m.valve.running = true ↔ m.state = 4
  val : m.valve.value ≠ none → m.valve.latched = 0
/-- What was accepted last lies at or below what the host stands at. -/
structure RiseInv (m : HostM) (s k : Int) : Prop where
  p : m.p = smallM
  v : VInv m
  ses : 0 ≤ s ∧ s ≤ m.session
  num : m.state ≠ 1 → m.session = s → k ≤ m.number
theorem rise_new : RiseInv smallH 0 0 := ⟨rfl, ⟨by decide, fun h => absurd rfl h⟩, by decide, fun _ _ => by decide⟩
theorem trip_value (v : ValveM) {c : Int} (hc : c ≠ 0) : (v.trip c).1.value = none ∧ (v.trip c).1.running = v.running := by
  unfold ValveM.trip
  rw [if_neg hc]
  exact ⟨rfl, rfl⟩
theorem off_none {v : ValveM} (h : v.value = none) : v.on = false := by simp [ValveM.on, h]
theorem off_stop {v : ValveM} (h : v.running = false) : v.on = false := by simp [ValveM.on, h]
theorem run_running (v : ValveM) (on : Bool) : (v.run on).running = on := by
  unfold ValveM.run
  split
  · assumption
  · rfl
theorem run_value (v : ValveM) (on : Bool) : (v.run on).value = v.value ∨ (v.run on).value = none := by
  unfold ValveM.run
  split
  · exact .inl rfl
  · exact .inr rfl
/-- What is on was on, with the same value. -/
def OnK (v v' : ValveM) : Prop := v'.on = true → v.on = true ∧ ∀ n, v.output n = v'.output n
theorem OnK.refl (v : ValveM) : OnK v v := fun h => ⟨h, fun _ => rfl⟩
theorem OnK.off {v v' : ValveM} (h : v'.on = false) : OnK v v' := fun h' => by rw [h] at h'; cases h'
theorem OnK.trans {v v' v'' : ValveM} (h : OnK v v') (h' : OnK v' v'') : OnK v v'' := fun h2 => ⟨(h (h' h2).1).1, fun n => ((h (h' h2).1).2 n).trans ((h' h2).2 n)⟩
theorem OnK.same {v v' : ValveM} (h1 : v'.running = v.running) (h2 : v'.held = v.held) (h3 : v'.value = v.value) : OnK v v' := by
  have e : v'.on = v.on := by simp [ValveM.on, h1, h2, h3]
  intro h
  refine ⟨e ▸ h, fun n => ?_⟩
  simp [ValveM.output, e, h3]
theorem ack_keep (v : ValveM) : OnK v v.ack := by
  unfold ValveM.ack
  split
  · exact .same rfl rfl rfl
  · exact .refl v
theorem lost_keep (m : HostM) : OnK m.valve m.lost.valve := by
  rcases lost_cases m with ⟨k, e, _⟩ | ⟨_, _, _, k, e⟩
  · rw [e]; exact .refl _
  · rw [e]; exact .off (run_false_on _)
theorem sent_keep (g : HostM) : OnK g.valve g.sent'.valve := by
  unfold HostM.sent'
  split
  · exact .refl _
  split
  · exact .off (run_false_on _)
  · exact .refl _
theorem VInv.lost {m : HostM} (h : VInv m) : VInv m.lost := by
  rcases lost_cases m with ⟨k, e, _⟩ | ⟨_, _, _, k, e⟩
  · rw [e]; exact ⟨h.run, h.val⟩
  · rw [e]
    refine ⟨?_, ?_⟩
    · show (ValveM.run _ false).running = true ↔ (1 : Int) = 4
      rw [run_running]
      exact ⟨fun h => (by cases h), fun h => (by omega)⟩
    · intro hv
      simp only [HostM.leave] at hv ⊢
      split at hv
      · rename_i h4
        rcases run_value (({ m with missed := k } : HostM).trip 131).valve false with h1 | h1
        · exact absurd (h1.trans (trip_value m.valve (c := 131) (by decide)).1) hv
        · exact absurd h1 hv
      · rename_i h4
        rw [if_neg h4]
        rw [run_latched]
        rcases run_value ({ m with missed := k } : HostM).valve false with h1 | h1
        · exact h.val (fun h0 => hv (h1.trans h0))
        · exact absurd h1 hv
theorem VInv.sent {g : HostM} (h : VInv g) : VInv g.sent' := by
  unfold HostM.sent'
  split
  · exact h
  split
  · refine ⟨?_, ?_⟩
    · show (ValveM.run _ false).running = true ↔ (5 : Int) = 4
      rw [run_running]
      exact ⟨fun h => (by cases h), fun h => (by omega)⟩
    · intro hv
      exfalso
      rcases run_value (({ g with sent := g.sent + 1 } : HostM).trip 80).valve false with h1 | h1
      · exact hv (h1.trans (trip_value g.valve (c := 80) (by decide)).1)
      · exact hv h1
  · exact ⟨h.run, h.val⟩
theorem VInv.see {m : HostM} (h : VInv m) (hp : m.p = smallM) : (m.see.on = true → m.see.state = 4 ∧ m.see.latched = 0) ∧ (m.see.on = false → m.see.out = [0]) := by
  constructor
  · intro hon
    have hon : m.valve.on = true := hon
    simp only [ValveM.on, Bool.and_eq_true] at hon
    refine ⟨h.run.1 hon.1.1, h.val (fun e => ?_)⟩
    rw [e] at hon
    simp at hon
  · intro hoff
    have hoff : m.valve.on = false := hoff
    show m.valve.output m.p.inn = [0]
    unfold ValveM.output
    rw [hoff, hp]
    rfl
theorem came_rise {m m' : HostM} {b : List UInt8} {c s k : Int} (hi : m.Inv) (h : RiseInv m s k) (hc : Came m b m' c) :
    ((decodeM b).2 = 0 ∧ m'.session = m.session ∧ m.number < m'.number ∧ s ≤ m'.session ∧ (m'.session = s → k < m'.number) ∧ (decodeM b).1.session = m'.session ∧ (decodeM b).1.number = m'.number ∧ (m'.valve.on = true → m'.valve.output 1 = (decodeM b).1.data) ∧ RiseInv m' m'.session m'.number) ∨
    ((¬ m'.session = m.session ∨ ¬ m.number < m'.number) ∧ OnK m.valve m'.valve ∧ RiseInv m' s k) := by
  obtain ⟨hp, hv, hs, hn⟩ := h
  have hs0 := hi.session
  cases hc with
  | no c hc => exact .inr ⟨.inr (by simp), .refl _, hp, ⟨hv.run, hv.val⟩, hs, hn⟩
  | offer h0 hst hk hu hd =>
    right
    have hr : m.valve.running = false := by
      rcases hb : m.valve.running with _ | _
      · rfl
      · have := hv.run.1 hb; omega
    refine ⟨.inl (by simp only [HostM.alive]; omega), .off (off_stop hr), hp, ⟨?_, hv.val⟩, ⟨hs.1, by simp only [HostM.alive]; omega⟩, fun _ e => by simp only [HostM.alive] at e; omega⟩
    show m.valve.running = true ↔ (2 : Int) = 4
    rw [hr]
    exact ⟨fun h => (by cases h), fun h => (by omega)⟩
  | agreed h0 hst hk =>
    right
    have hr : m.valve.running = false := by
      rcases hb : m.valve.running with _ | _
      · rfl
      · have := hv.run.1 hb; omega
    refine ⟨.inr (by simp [HostM.alive]), .off (off_stop hr), hp, ⟨?_, hv.val⟩, hs, fun _ e => hn (by omega) e⟩
    show m.valve.running = true ↔ (3 : Int) = 4
    rw [hr]
    exact ⟨fun h => (by cases h), fun h => (by omega)⟩
  | started h0 hst hk =>
    right
    have hr : m.valve.running = false := by
      rcases hb : m.valve.running with _ | _
      · rfl
      · have := hv.run.1 hb; omega
    have hval : (m.valve.run true).value = none := by
      unfold ValveM.run
      rw [if_neg (by rw [hr]; decide)]
    have hvv : ((({ m with state := 4 } : HostM).run true).alive).valve.value = none := hval
    refine ⟨.inr (by simp [HostM.alive, HostM.run]), .off (off_none hvv), hp, ⟨?_, fun h => absurd hvv h⟩, hs, fun _ e => hn (by omega) e⟩
    show (m.valve.run true).running = true ↔ (4 : Int) = 4
    rw [run_running]
    exact ⟨fun _ => rfl, fun _ => rfl⟩
  | data h0 hst hk hu hnn hcc hl =>
    left
    have hr := hv.run.2 hst
    refine ⟨h0, rfl, hnn, hs.2, fun e => ?_, hu, rfl, ?_, ?_⟩
    · have := hn (by omega) e
      show k < (decodeM b).1.number
      omega
    · intro hon
      by_cases hlt : m.valve.latched = 0
      · have ht : (((({ m with number := (decodeM b).1.number } : HostM).alive).valve.hold (decide (8 ≤ (decodeM b).1.flags))).take (decodeM b).1.data).value = some (decodeM b).1.data := by
          unfold ValveM.take ValveM.hold HostM.alive ValveM.come
          simp only
          rw [if_pos (by simp [hr, hlt])]
        unfold ValveM.output
        rw [if_pos hon]
        exact (congrArg (fun x => Option.getD x []) ht)
      · exfalso
        have hvn : m.valve.value = none := by
          rcases hx : m.valve.value with _ | x
          · rfl
          · exact absurd (hv.val (by rw [hx]; simp)) hlt
        have ht : (((({ m with number := (decodeM b).1.number } : HostM).alive).valve.hold (decide (8 ≤ (decodeM b).1.flags))).take (decodeM b).1.data).value = none := by
          unfold ValveM.take ValveM.hold HostM.alive ValveM.come
          simp only
          rw [if_neg (by simp [hlt])]
          exact hvn
        have := off_none ht
        rw [this] at hon
        cases hon
    · refine ⟨hp, ⟨?_, ?_⟩, ⟨hs0.1, Int.le_refl _⟩, fun _ _ => Int.le_refl _⟩
      · show (ValveM.take (ValveM.hold (ValveM.come m.valve) _) _).running = true ↔ m.state = 4
        have : (ValveM.take (ValveM.hold (ValveM.come m.valve) (decide (8 ≤ (decodeM b).1.flags))) (decodeM b).1.data).running = m.valve.running := by
          unfold ValveM.take
          split <;> rfl
        rw [this]
        exact hv.run
      · intro hne
        have hlat : (ValveM.take (ValveM.hold (ValveM.come m.valve) (decide (8 ≤ (decodeM b).1.flags))) (decodeM b).1.data).latched = m.valve.latched := by
          unfold ValveM.take
          split <;> rfl
        show (ValveM.take (ValveM.hold (ValveM.come m.valve) (decide (8 ≤ (decodeM b).1.flags))) (decodeM b).1.data).latched = 0
        rw [hlat]
        by_cases hlt : m.valve.latched = 0
        · exact hlt
        · apply hv.val
          intro hvn
          apply hne
          show (ValveM.take (ValveM.hold (ValveM.come m.valve) (decide (8 ≤ (decodeM b).1.flags))) (decodeM b).1.data).value = none
          unfold ValveM.take
          rw [if_neg (by simp [ValveM.hold, ValveM.come, hlt])]
          exact hvn
  | last h0 hst hk hu hnn hcc =>
    left
    have hoff : ((((({ m with number := (decodeM b).1.number } : HostM).alive).trip 80).run false)).valve.on = false := run_false_on _
    have hvn : ((((({ m with number := (decodeM b).1.number } : HostM).alive).trip 80).run false)).valve.value = none := by
      rcases run_value (((({ m with number := (decodeM b).1.number } : HostM).alive).trip 80)).valve false with h1 | h1
      · exact h1.trans (trip_value _ (c := 80) (by decide)).1
      · exact h1
    refine ⟨h0, rfl, hnn, hs.2, fun e => ?_, hu, rfl, fun hon => ?_, hp, ⟨?_, fun h => absurd hvn h⟩, ⟨hs0.1, Int.le_refl _⟩, fun _ _ => Int.le_refl _⟩
    · have := hn (by omega) e
      show k < (decodeM b).1.number
      omega
    · have hon : ((((({ m with number := (decodeM b).1.number } : HostM).alive).trip 80).run false)).valve.on = true := hon
      rw [hoff] at hon
      cases hon
    · show (ValveM.run _ false).running = true ↔ (5 : Int) = 4
      rw [run_running]
      exact ⟨fun h => (by cases h), fun h => (by omega)⟩
/-- One call. -/
theorem rise_step {m : HostM} {s k : Int} (hg : m.Good) (hl : m.Live) (h : RiseInv m s k) (o : OpM) :
    ((stepM m o).see.on = true → (stepM m o).see.state = 4 ∧ (stepM m o).see.latched = 0) ∧ ((stepM m o).see.on = false → (stepM m o).see.out = [0]) ∧
    ((∃ f, frameM m o = some f ∧ (decodeM f).2 = 0 ∧ (stepM m o).see.session = m.see.session ∧ m.see.number < (stepM m o).see.number ∧ s ≤ (stepM m o).see.session ∧ ((stepM m o).see.session = s → k < (stepM m o).see.number) ∧
      (decodeM f).1.session = (stepM m o).see.session ∧ (decodeM f).1.number = (stepM m o).see.number ∧ ((stepM m o).see.on = true → (stepM m o).see.out = (decodeM f).1.data) ∧ RiseInv (stepM m o) (stepM m o).see.session (stepM m o).see.number ∧ o.kind ≠ 11) ∨
     ((frameM m o = none ∨ ¬ (stepM m o).see.session = m.see.session ∨ ¬ m.see.number < (stepM m o).see.number) ∧ ((stepM m o).see.on = true → m.see.on = true ∧ m.see.out = (stepM m o).see.out) ∧ (o.kind ≠ 11 → RiseInv (stepM m o) s k) ∧ (o.kind = 11 → RiseInv (stepM m o) 0 0))) := by
  have hp' := step_p m hg hl o
  have hp := h.p
  have hin : m.p.inn = 1 := by rw [hp]; rfl
  have hin' : (stepM m o).p.inn = 1 := by rw [hp', hp]; rfl
  have key : ((∃ f, frameM m o = some f ∧ (decodeM f).2 = 0 ∧ (stepM m o).session = m.session ∧ m.number < (stepM m o).number ∧ s ≤ (stepM m o).session ∧ ((stepM m o).session = s → k < (stepM m o).number) ∧
      (decodeM f).1.session = (stepM m o).session ∧ (decodeM f).1.number = (stepM m o).number ∧ ((stepM m o).valve.on = true → (stepM m o).valve.output 1 = (decodeM f).1.data) ∧ RiseInv (stepM m o) (stepM m o).session (stepM m o).number ∧ o.kind ≠ 11) ∨
     ((frameM m o = none ∨ ¬ (stepM m o).session = m.session ∨ ¬ m.number < (stepM m o).number) ∧ OnK m.valve (stepM m o).valve ∧ (o.kind ≠ 11 → RiseInv (stepM m o) s k) ∧ (o.kind = 11 → RiseInv (stepM m o) 0 0))) := by
    unfold stepM
    cases hf : frameM m o with
    | some f =>
      have hk : o.kind ≠ 11 := fun h => by rw [frame_none (by omega)] at hf; cases hf
      simp only
      rcases came_rise hg.inv h (receive_came m f) with hc | hc
      · exact .inl ⟨f, rfl, hc.1, hc.2.1, hc.2.2.1, hc.2.2.2.1, hc.2.2.2.2.1, hc.2.2.2.2.2.1, hc.2.2.2.2.2.2.1, hc.2.2.2.2.2.2.2.1, hc.2.2.2.2.2.2.2.2, hk⟩
      · exact .inr ⟨.inr hc.1, hc.2.1, fun _ => hc.2.2, fun h => absurd h hk⟩
    | none =>
      right
      simp only
      refine ⟨.inl trivial, ?_⟩
      obtain ⟨_, hv, hs, hn⟩ := h
      by_cases k8 : o.kind = 8
      · rw [if_pos k8]
        have t := tick_same m o.n
        refine ⟨?_, fun _ => ⟨t.1.trans hp, ⟨?_, ?_⟩, by rw [t.2.1]; exact hs, by rw [t.2.1, t.2.2.1, t.2.2.2.2.1]; exact hn⟩, fun h => by omega⟩
        · rcases t.2.2.2.2.2.2.2 with e | e
          · rw [e]; exact .refl _
          · rw [e]; exact .off (off_none (trip_value _ (by decide)).1)
        · rw [t.2.2.2.2.1]
          rcases t.2.2.2.2.2.2.2 with e | e
          · rw [e]; exact hv.run
          · rw [e, (trip_value m.valve (c := 100) (by decide)).2]; exact hv.run
        · rcases t.2.2.2.2.2.2.2 with e | e
          · rw [e]; exact hv.val
          · rw [e, (trip_value m.valve (c := 100) (by decide)).1]; exact fun h => absurd rfl h
      rw [if_neg k8]
      by_cases k9 : o.kind = 9
      · rw [if_pos k9]
        have t := write_same m o.data o.odd
        exact ⟨by rw [t.2.2.2.2.2]; exact .refl _, fun _ => ⟨t.1.trans hp, ⟨by rw [t.2.2.2.2.2, t.2.2.2.2.1]; exact hv.run, by rw [t.2.2.2.2.2]; exact hv.val⟩, by rw [t.2.1]; exact hs, by rw [t.2.1, t.2.2.1, t.2.2.2.2.1]; exact hn⟩, fun h => by omega⟩
      rw [if_neg k9]
      by_cases k10 : o.kind = 10
      · rw [if_pos k10]
        have t := ack_same m
        have ha : m.valve.ack.running = m.valve.running ∧ m.valve.ack.value = m.valve.value ∧ (m.valve.latched = 0 → m.valve.ack.latched = 0) := by
          unfold ValveM.ack
          split
          · exact ⟨rfl, rfl, fun _ => rfl⟩
          · exact ⟨rfl, rfl, fun h => h⟩
        refine ⟨?_, fun _ => ⟨t.1.trans hp, ⟨?_, ?_⟩, by rw [t.2.1]; exact hs, by rw [t.2.1, t.2.2.1, t.2.2.2.2.1]; exact hn⟩, fun h => by omega⟩
        · rcases t.2.2.2.2.2.2.2 with e | e
          · rw [e]; exact .refl _
          · rw [e]; exact ack_keep _
        · rw [t.2.2.2.2.1]
          rcases t.2.2.2.2.2.2.2 with e | e
          · rw [e]; exact hv.run
          · rw [e, ha.1]; exact hv.run
        · rcases t.2.2.2.2.2.2.2 with e | e
          · rw [e]; exact hv.val
          · rw [e, ha.2.1]; exact fun h => ha.2.2 (hv.val h)
      rw [if_neg k10]
      by_cases k11 : o.kind = 11
      · rw [if_pos k11]
        exact ⟨.off rfl, fun h => absurd k11 h, fun _ => ⟨hp, ⟨by simp [HostM.reset], fun h => absurd rfl h⟩, ⟨by decide, by simp [HostM.reset]⟩, fun h => absurd rfl h⟩⟩
      rw [if_neg k11]
      by_cases k12 : o.kind = 12
      · rw [if_pos k12]
        by_cases h5 : m.state = 5
        · rw [send_done h5]
          exact ⟨.refl _, fun _ => ⟨hp, hv, hs, hn⟩, fun h => by omega⟩
        · obtain ⟨e, _, _⟩ := send_whole hg hl h5
          rw [e]
          have ls := lost_same m
          have ss := sent'_same m.lost
          refine ⟨(lost_keep m).trans (sent_keep m.lost), fun _ => ⟨ss.1.trans (ls.1.trans hp), ⟨hv.lost.sent.run, hv.lost.sent.val⟩, ?_, ?_⟩, fun h => by omega⟩
          · show 0 ≤ s ∧ s ≤ m.lost.sent'.session
            rw [ss.2.1, ls.2.1]; exact hs
          · show m.lost.sent'.state ≠ 1 → m.lost.sent'.session = s → k ≤ m.lost.sent'.number
            rw [ss.2.1, ls.2.1, ss.2.2.2.2.1]
            intro h1 h2
            rcases lost_cases m with ⟨kk, el, _⟩ | ⟨_, _, _, kk, el⟩
            · rw [el]
              show k ≤ m.number
              refine hn ?_ h2
              intro h3
              apply h1
              have : m.lost.state = 1 := by rw [el]; exact h3
              unfold HostM.sent'
              rw [if_pos (by omega)]
              exact this
            · exfalso
              apply h1
              have : m.lost.state = 1 := by rw [el]; rfl
              unfold HostM.sent'
              rw [if_pos (by omega)]
              exact this
      rw [if_neg k12]
      exact ⟨.refl _, fun _ => ⟨hp, hv, hs, hn⟩, fun h => absurd h k11⟩
  have hVI : VInv (stepM m o) := by
    rcases key with ⟨f, hc⟩ | hc
    · exact hc.2.2.2.2.2.2.2.2.2.1.v
    · by_cases k11 : o.kind = 11
      · exact (hc.2.2.2 k11).v
      · exact (hc.2.2.1 k11).v
  have hsee := hVI.see (hp'.trans hp)
  refine ⟨hsee.1, hsee.2, ?_⟩
  rcases key with ⟨f, hc⟩ | hc
  · left
    refine ⟨f, hc.1, hc.2.1, hc.2.2.1, hc.2.2.2.1, hc.2.2.2.2.1, hc.2.2.2.2.2.1, hc.2.2.2.2.2.2.1, hc.2.2.2.2.2.2.2.1, fun hon => ?_, hc.2.2.2.2.2.2.2.2.2.1, hc.2.2.2.2.2.2.2.2.2.2⟩
    have := hc.2.2.2.2.2.2.2.2.1 hon
    show (stepM m o).valve.output (stepM m o).p.inn = _
    rw [hin']
    exact this
  · right
    refine ⟨hc.1, fun hon => ?_, hc.2.2.1, hc.2.2.2⟩
    have := hc.2.1 hon
    refine ⟨this.1, ?_⟩
    show m.valve.output m.p.inn = (stepM m o).valve.output (stepM m o).p.inn
    rw [hin, hin']
    exact this.2 1
/-- One call, with the test that the law makes. -/
theorem rise_cond {m : HostM} {s k : Int} (hg : m.Good) (hl : m.Live) (h : RiseInv m s k) (o : OpM) : ∃ (C : Bool) (s2 k2 : Int),
    (o.kind = 11 → s2 = 0 ∧ k2 = 0) ∧ (o.kind ≠ 11 → s2 = s ∧ k2 = k) ∧
    (C = true ↔ (frameM m o).isSome = true ∧ (decodeM ((frameM m o).getD [])).2 = 0 ∧ (stepM m o).see.session = m.see.session ∧ m.see.number < (stepM m o).see.number) ∧
    ((stepM m o).see.on = true → (stepM m o).see.state = 4 ∧ (stepM m o).see.latched = 0) ∧ ((stepM m o).see.on = false → (stepM m o).see.out = [0]) ∧
    (C = true → s2 ≤ (stepM m o).see.session ∧ ((stepM m o).see.session = s2 → k2 < (stepM m o).see.number) ∧ (decodeM ((frameM m o).getD [])).1.session = (stepM m o).see.session ∧ (decodeM ((frameM m o).getD [])).1.number = (stepM m o).see.number ∧
      ((stepM m o).see.on = true → (stepM m o).see.out = (decodeM ((frameM m o).getD [])).1.data) ∧ RiseInv (stepM m o) (stepM m o).see.session (stepM m o).see.number) ∧
    (C = false → ((stepM m o).see.on = true → m.see.on = true ∧ m.see.out = (stepM m o).see.out) ∧ RiseInv (stepM m o) s2 k2) := by
  obtain ⟨h1, h2, h3⟩ := rise_step hg hl h o
  rcases h3 with ⟨f, hf, ha⟩ | hb
  · have hk : o.kind ≠ 11 := ha.2.2.2.2.2.2.2.2.2
    refine ⟨true, s, k, fun e => absurd e hk, fun _ => ⟨rfl, rfl⟩, ?_, h1, h2, fun _ => ?_, fun e => by cases e⟩
    · rw [hf]
      exact ⟨fun _ => ⟨rfl, ha.1, ha.2.1, ha.2.2.1⟩, fun _ => rfl⟩
    · rw [hf]
      exact ⟨ha.2.2.2.1, ha.2.2.2.2.1, ha.2.2.2.2.2.1, ha.2.2.2.2.2.2.1, ha.2.2.2.2.2.2.2.1, ha.2.2.2.2.2.2.2.2.1⟩
  · have hC : false = true ↔ (frameM m o).isSome = true ∧ (decodeM ((frameM m o).getD [])).2 = 0 ∧ (stepM m o).see.session = m.see.session ∧ m.see.number < (stepM m o).see.number := by
      refine ⟨fun e => (by cases e), fun e => ?_⟩
      rcases hb.1 with h4 | h4 | h4
      · rw [h4] at e; cases e.1
      · exact absurd e.2.2.1 h4
      · exact absurd e.2.2.2 h4
    by_cases hk : o.kind = 11
    · exact ⟨false, 0, 0, fun _ => ⟨rfl, rfl⟩, fun e => absurd hk e, hC, h1, h2, fun e => (by cases e), fun _ => ⟨hb.2.1, hb.2.2.2 hk⟩⟩
    · exact ⟨false, s, k, fun e => absurd e hk, fun _ => ⟨rfl, rfl⟩, hC, h1, h2, fun e => (by cases e), fun _ => ⟨hb.2.1, hb.2.2.1 hk⟩⟩
end Go.Proofs.YtfoldlbnkfnenaaGreat
