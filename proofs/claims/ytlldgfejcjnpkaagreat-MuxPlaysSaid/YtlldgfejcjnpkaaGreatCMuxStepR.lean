/- One frame through both muxes. -/
import Derived.Test.YtlldgfejcjnpkaaGreatCMuxStep0
import Derived.Test.YtlldgfejcjnpkaaGreatMid2
import Derived.Test.YtlldgfejcjnpkaaGreatMid4
set_option linter.unusedVariables false
namespace Go.Proofs.YtlldgfejcjnpkaaGreat
open Go.RowKit
set_option maxHeartbeats 10000000
set_option maxRecDepth 100000

structure Both (B z x y : Nat) (R R' : List PRow) (Q Q' : List QRow) (lost' : Int) (U : Nat → Prop) (k : Nat) : Prop where
  likes : Likes R R' Q Q'
  close : ∀ W F' G', MuxH B W z x y R' lost' Q' lost' F' G' U → MuxW B W z x y R' Q' lost' F' G' U k
theorem MuxW.recv {B k : Nat} {w : World} {z x y : Nat} {R : List PRow} {lost : Int} {Q : List QRow} {F G U : Nat → Prop} (h : MuxW B w z x y R Q lost F G U k) (hk : k ≤ 1000000) (l : List UInt8) :
    ∃ (cd er : Int) (bs : List UInt8) (R' : List PRow) (Q' : List QRow) (lost' : Int), Both B z x y R R' Q Q' lost' U (k + 1) ∧
      (∀ W A n c Br, MuxIs B W x R lost F → W.ownsRow Br 5 1 (.slice A n c) n (u8c l) → (∀ g, (Value.slice A n c).ownBlock = some g → ¬ F g) → n ≤ 140737488351232 →
        Calls Tryz.prog 35 #[.pointer (some ⟨x, 0, none⟩), .slice A n c] W fun e w' => ∃ v, e = .returned (.tuple #[.int .u32 cd, v, .int .i64 er]) ∧ w'.ownsRow W.heap.size 5 1 v bs.length (u8c bs) ∧ MuxTo B W x R' lost' F w') ∧
      (∀ W A n c Br, RMuxIs B W y Q lost G → W.ownsRow Br 5 1 (.slice A n c) n (u8c l) → (∀ g, (Value.slice A n c).ownBlock = some g → ¬ G g) → Br ≤ W.heap.size →
        Calls Tryz.prog 85 #[.pointer (some ⟨y, 0, none⟩), .slice A n c] W fun e w' => ∃ v, e = .returned (.tuple #[.int .u32 cd, v, .int .i64 er]) ∧ w'.ownsRow W.heap.size 5 1 v bs.length (u8c bs) ∧ RMuxTo B W y Q' lost' G w') := by
  have hl := h.lostk
  have hq8 : Q.length ≤ 8 := by rw [h.qlen]; exact h.len8
  by_cases hok : (decodeM l).2 = 0 ∧ ∃ r ∈ R, r.code = (decodeM l).1.code
  · obtain ⟨h0, r, hrm, hc⟩ := hok
    obtain ⟨i, hr⟩ := List.getElem?_of_mem hrm
    obtain ⟨q, hq, hqm, hqs⟩ := h.at_ hr
    have hu := h.used r hrm
    have hqc : q.code = r.code := by unfold QRow.code PRow.code; rw [hqm]
    have hinv : r.m.Inv := by
      obtain ⟨FD, _, hi, _⟩ := h.h.prog.onDev hr
      exact hi
    have hp := dreceive_p hinv l
    refine ⟨r.code, (r.m.receive l).2.2, (r.m.receive l).2.1, R.set i { r with m := (r.m.receive l).1, seen := r.seen + 1 }, Q.set i { q with m := (q.m.receive l).1, seen := q.seen + 1 }, lost, ⟨⟨by simp, map_set_same PRow.code hr (by simp [PRow.code, hp]), map_set_same PRow.a hr rfl, map_set_same PRow.ma hr rfl, map_set_same QRow.b hq rfl⟩, fun W F' G' hH => ⟨hH, ?_, by rw [List.length_set]; exact h.len8, fun p hp' => ?_, by omega⟩⟩, fun W A n c Br hM hr1 hA hn => ?_, fun W A n c Br hM hr1 hA hB => ?_⟩
    · rw [List.map_set, List.map_set, h.same]
      simp [hqm, hqs]
    · rcases List.mem_or_eq_of_mem_set hp' with h3 | h3
      · have := h.used p h3; omega
      · subst h3
        have := dreceive_log r.m l
        simp only
        omega
    · exact muxReceive_ok B x R lost F A n c Br l W hM hr ⟨hu.1, by omega⟩ (by omega) h0 hc hr1 hA hn
    · have hc2 := rmuxReceive_ok B y Q lost G A n c Br l W hM hq8 hq ⟨by omega, by omega⟩ (by rw [hqm]; omega) h0 (hqc.trans hc) (findQ_hit (by rw [h.codes]; exact h.nodup) hq) hr1 hA
      rw [hqc, hqm] at hc2
      rw [hqm]
      exact hc2
  · have he : (decodeM l).2 ≠ 0 ∨ ∀ r ∈ R, r.code ≠ (decodeM l).1.code := by
      by_cases h0 : (decodeM l).2 = 0
      · exact .inr (fun r hr hc => hok ⟨h0, r, hr, hc⟩)
      · exact .inl h0
    have he2 : (decodeM l).2 ≠ 0 ∨ ∀ q ∈ Q, q.code ≠ (decodeM l).1.code := by
      refine he.imp id (fun h1 q hq hc => ?_)
      have h2 : q.code ∈ R.map PRow.code := by rw [← h.codes]; exact List.mem_map_of_mem hq
      obtain ⟨r, hr, hrc⟩ := List.mem_map.1 h2
      exact h1 r hr (hrc.trans hc)
    refine ⟨0, (if (decodeM l).2 = 0 then 44 else (decodeM l).2), [], R, Q, lost + 1, ⟨Likes.refl R Q, fun W F' G' hH => ⟨hH, h.same, h.len8, fun p hp' => ?_, by omega⟩⟩, fun W A n c Br hM hr1 hA hn => ?_, fun W A n c Br hM hr1 hA hB => ?_⟩
    · have := h.used p hp'; omega
    · refine (muxReceive_bad B x R lost F A n c W.heap.size l W hM (by omega) he (Reads.of_own hr1) (Nat.le_refl _) (own_cap hr1) hn).mono ?_
      rintro e w' ⟨rfl, ht⟩
      exact ⟨_, rfl, World.ownsRow_nil _ _ _ _, ht⟩
    · refine (rmuxReceive_bad B y Q lost G A n c W.heap.size l W hM hq8 (by omega) he2 (Reads.of_own hr1) (Nat.le_refl _) (own_cap hr1)).mono ?_
      rintro e w' ⟨rfl, ht⟩
      exact ⟨_, rfl, World.ownsRow_nil _ _ _ _, ht⟩
/-- A tick of all. -/
theorem MuxW.ticked {B k : Nat} {w : World} {z x y : Nat} {R : List PRow} {lost : Int} {Q : List QRow} {F G U : Nat → Prop} (h : MuxW B w z x y R Q lost F G U k) (n : Int) :
    Both B z x y R (R.map (PRow.tick n)) Q (Q.map fun q => { q with m := (q.m.tick n).1 }) lost U (k + 1) := by
  have hl := h.lostk
  refine ⟨⟨by simp, ?_, ?_, ?_, ?_⟩, fun W F' G' hH => ⟨hH, ?_, by rw [List.length_map]; exact h.len8, fun p hp' => ?_, by omega⟩⟩
  · rw [List.map_map]; exact List.map_congr_left (fun r _ => tick_code n r)
  · rw [List.map_map]; rfl
  · rw [List.map_map]; rfl
  · rw [List.map_map]; rfl
  · have := congrArg (List.map fun p : DevM × Int => ((p.1.tick n).1, p.2)) h.same
    rw [List.map_map, List.map_map] at this
    rw [List.map_map, List.map_map]
    exact this
  · obtain ⟨r, hr, rfl⟩ := List.mem_map.1 hp'
    have h1 := h.used r hr
    have h2 := dtick_log r.m n
    simp only [PRow.tick]
    omega
end Go.Proofs.YtlldgfejcjnpkaaGreat
