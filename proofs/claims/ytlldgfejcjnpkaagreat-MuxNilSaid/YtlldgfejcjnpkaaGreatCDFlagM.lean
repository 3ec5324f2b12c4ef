/- The flags of what a device answers: plain. -/
import Derived.Test.YtlldgfejcjnpkaaGreatBase2
import Derived.Test.YtlldgfejcjnpkaaGreatBase14
import Derived.Test.YtlldgfejcjnpkaaGreatBase7
set_option linter.unusedVariables false
namespace Go.Proofs.YtlldgfejcjnpkaaGreat
namespace DevM
/-- What is decoded out of an encoded unit is that unit. -/
theorem enc_dec {v u : UnitM} (ho : v.Ok) (h : decodeM v.encode = (u, 0)) : u = v := by
  rcases Classical.em (v.lawful = 0) with hl | hl
  · rw [decode_encode hl ho] at h
    exact (Prod.mk.inj h).1.symm
  · have e : v.encode = [] := by unfold UnitM.encode; rw [if_neg hl]
    rw [e] at h
    simp [decodeM] at h
/-- What a call that answers a frame does to the application's value, and what its frame tells. -/
structure FAns (d : DevM) (r : DevM × List UInt8 × Int) : Prop where
  p : r.1.p = d.p
  cut : r.2.2 = 70 → r.1.state = 6 ∧ r.1.value = List.replicate d.p.inn.toNat 0 ∧ r.1.hold = false
  keep : r.2.2 ≠ 70 → r.1.value = d.value ∧ r.1.hold = d.hold ∧ r.1.state ≠ 6
  data : r.2.2 = 0 → ∀ u, decodeM r.2.1 = (u, 0) → u.kind = 20 → u.flags = flagsM r.1.valve r.1.hold ∧ u.data = r.1.value ∧ u.number = r.1.sent
theorem strange_same (d : DevM) : d.strange.1.p = d.p ∧ d.strange.1.value = d.value ∧ d.strange.1.hold = d.hold ∧ (d.state ≠ 6 → d.strange.1.state ≠ 6) := by
  unfold strange
  split
  · exact ⟨rfl, rfl, rfl, id⟩
  · simp only
    split
    · exact ⟨rfl, rfl, rfl, id⟩
    · split
      · exact ⟨rfl, rfl, rfl, fun _ => by show (1 : Int) ≠ 6; omega⟩
      · exact ⟨rfl, rfl, rfl, fun _ => by show (1 : Int) ≠ 6; omega⟩
theorem fans_odds {d : DevM} (h6 : d.state ≠ 6) (e : Int) (he : e ≠ 0) (h70 : e ≠ 70) : FAns d (d.odds e) :=
  ⟨d.strange_same.1, fun h => absurd h h70, fun _ => ⟨d.strange_same.2.1, d.strange_same.2.2.1, d.strange_same.2.2.2 h6⟩, fun h => absurd h he⟩
theorem frame_ok {d : DevM} (h : d.Inv) (k n f : Int) (data : List UInt8) (hn : 0 ≤ n ∧ n < 4294967296) : (UnitM.mk k d.p.code d.session n f data).Ok := ⟨h.pok.code, h.session, hn⟩
theorem fans_begin {d : DevM} (h : d.Inv) : FAns d d.begin_ := by
  have hb := h.begin_
  have he := next_err d.cell d.m
  unfold begin_ at hb ⊢
  generalize d.cell.next d.m = r at *
  obtain ⟨c, m', s, e⟩ := r
  simp only at *
  rcases he with rfl | rfl | rfl
  · simp only [show ¬ ((0 : Int) = 80) by omega, if_false, ne_eq, not_true_eq_false] at hb ⊢
    refine ⟨rfl, fun h => by simp at h, fun _ => ⟨rfl, rfl, by show (2 : Int) ≠ 6; omega⟩, fun _ u hu hk => ?_⟩
    have := enc_dec (frame_ok hb 17 0 0 _ (by omega)) hu
    rw [this] at hk
    simp at hk
  · simp only [show ¬ ((70 : Int) = 80) by omega, if_false, ne_eq, show ¬ ((70 : Int) = 0) by omega, not_false_eq_true, if_true] at hb ⊢
    exact ⟨rfl, fun _ => ⟨rfl, rfl, rfl⟩, fun h => absurd rfl h, fun h => by simp at h⟩
  · simp only [if_true] at hb ⊢
    exact ⟨rfl, fun h => by simp at h, fun _ => ⟨rfl, rfl, by show (5 : Int) ≠ 6; omega⟩, fun h => by simp at h⟩
theorem FAns.of {d g : DevM} {r : DevM × List UInt8 × Int} (h : FAns g r) (hp : g.p = d.p) (hv : g.value = d.value) (hh : g.hold = d.hold) : FAns d r :=
  ⟨h.p.trans hp, fun e => by rw [← hp]; exact h.cut e, fun e => by rw [← hv, ← hh]; exact h.keep e, h.data⟩
theorem fans_wish {d : DevM} (h : d.Inv) (h6 : d.state ≠ 6) : FAns d d.wish := by
  have hs := d.strange_same
  unfold wish
  split
  · simp only
    split
    · exact (fans_begin h.strange).of hs.1 hs.2.1 hs.2.2.1
    · split
      · exact ⟨hs.1, fun e => by simp at e, fun _ => ⟨hs.2.1, hs.2.2.1, hs.2.2.2 h6⟩, fun e => by simp at e⟩
      · exact ⟨hs.1, fun e => by simp at e, fun _ => ⟨hs.2.1, hs.2.2.1, hs.2.2.2 h6⟩, fun e => by simp at e⟩
  · exact fans_begin h
theorem fans_take {d : DevM} (h : d.Inv) (h6 : d.state ≠ 6) {u : UnitM} (hn : 0 ≤ u.number ∧ u.number < 4294967296) : FAns d (d.take u) := by
  have ht := h.take hn
  have hp8 := h.p8
  unfold take at ht ⊢
  split
  · split
    · exact fans_wish h h6
    · exact fans_odds h6 91 (by omega) (by omega)
  rename_i k1
  rw [if_neg k1] at ht
  split
  · rename_i k2
    rw [if_pos k2] at ht
    split
    · exact fans_odds h6 91 (by omega) (by omega)
    · rename_i k3
      rw [if_neg k3] at ht
      simp only at ht ⊢
      by_cases hs : d.state = 2
      · rw [if_pos hs] at ht ⊢
        refine ⟨rfl, fun e => by simp at e, fun _ => ⟨rfl, rfl, by show (3 : Int) ≠ 6; omega⟩, fun _ v hv hk => ?_⟩
        have := enc_dec (frame_ok ht 18 0 0 [] (by omega)) hv
        rw [this] at hk
        simp at hk
      · rw [if_neg hs] at ht ⊢
        refine ⟨rfl, fun e => by simp at e, fun _ => ⟨rfl, rfl, h6⟩, fun _ v hv hk => ?_⟩
        have := enc_dec (frame_ok ht 18 0 0 [] (by omega)) hv
        rw [this] at hk
        simp at hk
  rename_i k2
  rw [if_neg k2] at ht
  split
  · rename_i k3
    rw [if_pos k3] at ht
    simp only at ht ⊢
    by_cases hs : d.state = 3
    · rw [if_pos hs] at ht ⊢
      refine ⟨rfl, fun e => by simp at e, fun _ => ⟨rfl, rfl, by show (4 : Int) ≠ 6; omega⟩, fun _ v hv hk => ?_⟩
      have := enc_dec (frame_ok ht 19 0 0 [] (by omega)) hv
      rw [this] at hk
      simp at hk
    · rw [if_neg hs] at ht ⊢
      refine ⟨rfl, fun e => by simp at e, fun _ => ⟨rfl, rfl, h6⟩, fun _ v hv hk => ?_⟩
      have := enc_dec (frame_ok ht 19 0 0 [] (by omega)) hv
      rw [this] at hk
      simp at hk
  rename_i k3
  rw [if_neg k3] at ht
  split
  · rename_i k4
    rw [if_pos k4] at ht
    simp only at ht ⊢
    refine ⟨rfl, fun e => by simp at e, fun _ => ⟨rfl, rfl, h6⟩, fun _ v hv _ => ?_⟩
    have hsn := h.sent
    have hnn := k4.2.2.2.1
    have := enc_dec (v := UnitM.mk 20 d.p.code d.session (d.sent + 1) _ d.value) ⟨h.pok.code, h.session, ⟨by show 0 ≤ d.sent + 1; omega, by show d.sent + 1 < 4294967296; omega⟩⟩ hv
    rw [this]
    exact ⟨rfl, rfl, rfl⟩
  rename_i k4
  rw [if_neg k4] at ht
  split
  · rename_i k5
    rw [if_pos k5] at ht
    simp only at ht ⊢
    refine ⟨rfl, fun e => by simp at e, fun _ => ⟨rfl, rfl, by show (5 : Int) ≠ 6; omega⟩, fun _ v hv hk => ?_⟩
    have hct := h.pok.count
    have := enc_dec (v := UnitM.mk 21 d.p.code d.session d.p.count 0 []) ⟨h.pok.code, h.session, hct⟩ hv
    rw [this] at hk
    simp at hk
  · exact fans_odds h6 130 (by omega) (by omega)
/-- A frame is not cut off by the power. -/
theorem decode_err2 (l : List UInt8) : (decodeM l).2 ≠ 70 := by
  unfold decodeM
  split
  · simp
  split
  · simp
  split
  · simp
  · simp only
    have h : (if (unitOf l).lawful ≠ 43 ∧ (unitOf l).lawful ≠ 44 ∧ (l.getD 14 0).toNat ≠ (unitOf l).data.length then (45 : Int) else (unitOf l).lawful) ≠ 70 := by
      split
      · simp
      · unfold UnitM.lawful
        split
        · simp
        split
        · simp
        split
        · simp
        split
        · simp
        split
        · simp
        split
        · simp
        · simp
    generalize (if (unitOf l).lawful ≠ 43 ∧ (unitOf l).lawful ≠ 44 ∧ (l.getD 14 0).toNat ≠ (unitOf l).data.length then (45 : Int) else (unitOf l).lawful) = e at h
    split
    · exact h
    · simp
theorem fans_receive {d : DevM} (h : d.Inv) (h6 : d.state ≠ 6) (b : List UInt8) : FAns d (d.receive b) := by
  have hd := decode_ok b
  have hr : FAns d (d.read b) := by
    unfold read
    simp only
    split
    · rename_i he
      have h70 : (decodeM b).2 ≠ 70 := decode_err2 b
      exact ⟨rfl, fun e => absurd e h70, fun _ => ⟨rfl, rfl, h6⟩, fun e => absurd e he⟩
    split
    · exact ⟨rfl, fun e => by simp at e, fun _ => ⟨rfl, rfl, h6⟩, fun e => by simp at e⟩
    split
    · exact ⟨rfl, fun e => by simp at e, fun _ => ⟨rfl, rfl, h6⟩, fun e => by simp at e⟩
    · exact fans_take h h6 hd.2.1
  unfold receive
  rw [if_neg h6]
  simp only
  split
  · exact hr
  · rename_i hn
    exact ⟨hr.p, fun e => absurd (.inr e) hn, hr.keep, fun e => absurd (.inl e) hn⟩
end DevM
end Go.Proofs.YtlldgfejcjnpkaaGreat
