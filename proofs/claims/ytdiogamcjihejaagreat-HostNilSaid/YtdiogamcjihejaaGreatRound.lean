/- What is encoded is decoded: plain. -/
import Derived.Test.YtdiogamcjihejaaGreatEndM
import Derived.Test.YtdiogamcjihejaaGreatUnitB
namespace Go.Proofs.YtdiogamcjihejaaGreat

theorem lawful_kind {u : UnitM} (h : u.lawful = 0) : 1 ≤ u.kind ∧ u.kind ≤ 22 := by
  unfold UnitM.lawful at h
  split at h
  · cases h
  · rename_i h1
    simp [isHost, isDev] at h1
    by_cases h2 : u.kind < 1 ∨ 5 < u.kind
    · have := h1 h2
      omega
    · omega
theorem lawful_flags2 {u : UnitM} (h : u.lawful = 0) : 0 ≤ u.flags ∧ u.flags ≤ 15 := by
  unfold UnitM.lawful at h
  split at h
  · cases h
  split at h
  · cases h
  split at h
  · cases h
  split at h
  · cases h
  split at h
  · cases h
  split at h
  · cases h
  · rename_i h1
    simp [flagOk] at h1
    omega
theorem byteOf_nat {n : Int} (h0 : 0 ≤ n) (h1 : n < 256) : (((byteOf n).toNat : Nat) : Int) = n := by
  rw [byteOf_val]
  omega
theorem ofInt_word {n : Int} (h : 0 ≤ n ∧ n < 4294967296) : (((BitVec.ofInt 32 n).toNat : Nat) : Int) = n := by
  simp [BitVec.toNat_ofInt]
  omega
theorem decode_encode {u : UnitM} (h : u.lawful = 0) (ho : u.Ok) : decodeM u.encode = (u, 0) := by
  have hd := UnitM.lawful_len h
  have hk := lawful_kind h
  have hf := lawful_flags2 h
  have he : u.encode = sealM u.body := by unfold UnitM.encode; rw [if_pos h]
  have hlen : u.body.length = 15 + u.data.length := by
    unfold UnitM.body wordBytes wordOf
    simp
    omega
  have hsl : (sealM u.body).length = u.data.length + 19 := by
    unfold sealM wordOf
    simp [hlen]
    omega
  have hcrc : crcOf 0#32 (sealM u.body) = 0#32 := by
    unfold sealM
    exact (crc_valid u.body _ _ _ _).2 rfl
  have hu : unitOf (sealM u.body) = u := by
    obtain ⟨kind, code, session, number, flags, data⟩ := u
    unfold unitOf
    rw [hsl]
    simp only at *
    have e1 : numAt (sealM (UnitM.body ⟨kind, code, session, number, flags, data⟩)) 1 = code := by
      unfold numAt sealM UnitM.body wordBytes wordOf
      simp only [List.cons_append, List.nil_append, List.getD_cons_succ, List.getD_cons_zero]
      rw [ofWord_wordOf]
      exact ofInt_word ho.code
    have e5 : numAt (sealM (UnitM.body ⟨kind, code, session, number, flags, data⟩)) 5 = session := by
      unfold numAt sealM UnitM.body wordBytes wordOf
      simp only [List.cons_append, List.nil_append, List.getD_cons_succ, List.getD_cons_zero]
      rw [ofWord_wordOf]
      exact ofInt_word ho.session
    have e9 : numAt (sealM (UnitM.body ⟨kind, code, session, number, flags, data⟩)) 9 = number := by
      unfold numAt sealM UnitM.body wordBytes wordOf
      simp only [List.cons_append, List.nil_append, List.getD_cons_succ, List.getD_cons_zero]
      rw [ofWord_wordOf]
      exact ofInt_word ho.number
    have e0 : (((sealM (UnitM.body ⟨kind, code, session, number, flags, data⟩)).getD 0 0).toNat : Int) = kind := by
      unfold sealM UnitM.body
      simp only [List.cons_append, List.nil_append, List.getD_cons_zero]
      exact byteOf_nat (by omega) (by omega)
    have e13 : (((sealM (UnitM.body ⟨kind, code, session, number, flags, data⟩)).getD 13 0).toNat : Int) = flags := by
      unfold sealM UnitM.body wordBytes wordOf
      simp only [List.cons_append, List.nil_append, List.getD_cons_succ, List.getD_cons_zero]
      exact byteOf_nat (by omega) (by omega)
    have ed : ((sealM (UnitM.body ⟨kind, code, session, number, flags, data⟩)).drop 15).take (data.length + 19 - 19) = data := by
      unfold sealM UnitM.body wordBytes wordOf
      simp
    rw [e0, e1, e5, e9, e13, ed]
  have h14 : ((sealM u.body).getD 14 0).toNat = u.data.length := by
    have : ((((sealM u.body).getD 14 0).toNat : Nat) : Int) = (u.data.length : Int) := by
      unfold sealM UnitM.body wordBytes wordOf
      simp only [List.cons_append, List.nil_append, List.getD_cons_succ, List.getD_cons_zero]
      exact byteOf_nat (by omega) (by omega)
    omega
  rw [he]
  unfold decodeM
  rw [if_neg (by omega), if_neg (by omega), if_neg (by simp [hcrc])]
  simp only [hu, h14, h]
  simp
end Go.Proofs.YtdiogamcjihejaaGreat
