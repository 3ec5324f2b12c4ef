/- Between the base and the laws, part 4: contracts and plain lemmas, no statement. -/
import Derived.Test.YtlldgfejcjnpkaaGreatMid3
import Derived.Deep.RegionLawGrows
set_option linter.unusedVariables false
/- The reference's mux: a device more. -/
namespace Go.Proofs.YtlldgfejcjnpkaaGreat
open Go.RowKit
set_option maxHeartbeats 10000000
set_option maxRecDepth 100000

theorem rmuxAdd_new (B y b mb : Nat) (Q : List QRow) (lost : Int) (F FD : Nat → Prop) (m : DevM) (w : World) (hM : RMuxIs B w y Q lost F) (hD : RDIs B w b mb m FD) (hi : m.Inv) (hdj : ∀ g, F g → ¬ FD g) (h8 : Q.length < 8) (hf : findQ Q m.p.code = -1) :
    Calls Tryz.prog 74 #[.pointer (some ⟨y, 0, none⟩), .pointer (some ⟨b, 0, none⟩)] w fun e w' => e = .returned (.int .i64 0) ∧ RMuxIs B w' y (Q ++ [⟨b, mb, m, 0⟩]) lost (grow (fun g => F g ∨ FD g) w w') ∧ Keep F w w' := by
  obtain ⟨⟨κ, vl, vs, hM, hF⟩, hlo⟩ := hM
  have hfi := rmuxFind_any B y Q lost κ vl vs m.p.code w hM (by omega)
  rw [hf] at hfi
  have p1 : w.cell? ⟨b, 0, none⟩ = some (.int .u32 m.p.code) := RDIs.code (q := ⟨b, mb, m, 0⟩) hD
  obtain ⟨Al, cl, rfl⟩ := own_slice hM.list
  obtain ⟨As, cs, rfl⟩ := own_slice hM.seen
  have hcy := hM.blk.cell
  have hlt8 : ¬ (8 : Int) ≤ (Q.length : Int) := by omega
  obtain ⟨i0, hi0, hz0, hz1, hz2⟩ := info_parts rptr_info
  obtain ⟨j0, hj0, hy0, hy1, hy2⟩ := info_parts int_info
  have hblk := hM.blk
  have hlist := hM.list
  have hseen := hM.seen
  have HM := Lib.hid hM
  have HD := Lib.hid hD
  have HF := Lib.hid hF
  have HL := Lib.hid hlo
  have Hdj := Lib.hid hdj
  clear hM hD hf hF hlo hdj
  go_enter Tryz.func74, Tryz.ntmps74
  go_wp2_with fail
  refine hfi.mono ?_
  rintro e w' ⟨rfl, rfl⟩
  go_upto_region 6 with (at_builtin; go_must (refine wpList_append_any _ rfl (.tmp 23) (.tmp 25) _ rfl 0 38 i0 _ 1 8 Tryz.underlying76 hi0 hz0 hz1 hz2 rfl (by omega) (.slice Al Q.length cl) Q.length _ rfl (hlist.alloc _) (w'.heap.size + 1) (some ⟨w'.heap.size, 0, none⟩) 1 1 _ rfl (Reads.of_blk (Blk.new w' _ _) (by omega) rfl) (by simp [Value.oneCell']) (by unfold maxLen; omega) (by omega) (by simp) ?_; intro v4 w4 hown4 hg4 hat4; obtain ⟨A4, c4, rfl⟩ := own_slice hown4; have hB4 := (hblk.alloc (.cells #[.pointer (some ⟨b, 0, none⟩)] 38)).grown hg4 (own_ne hlist hblk (by decide)); have hc4 := hB4.cell; have hf4 := hB4.frozen))
  have hky := HM.out.ky
  have hkv := HM.out.kv
  have hks := HM.out.ks
  have K4 : Keep (fun g => (Value.slice Al Q.length cl).ownBlock = some g ∨ g = y) w' w4 := ((Keep.refl _ w').alloc _).grown hg4 (fun k h _ => .inl h)
  have K5 : Keep (fun g => (Value.slice Al Q.length cl).ownBlock = some g ∨ g = y) w' (w4.setCell ⟨y, 0, none⟩ (.slice A4 (Q.length + 1) c4)) := K4.setCell (p := ⟨y, 0, none⟩) (fun _ => .inr rfl) _
  have hseen5 := ownsRow_keep hseen K5 (fun g hg h => by
    rcases h with h | h
    · exact (hkv g h).ne (by decide) (hks g hg)
    · exact (hks g hg).ne (by decide) (h ▸ hky))
  have hB5 : Blk (w4.setCell ⟨y, 0, none⟩ (.slice A4 (Q.length + 1) c4)) y 152 #[.slice A4 (Q.length + 1) c4, .slice As Q.length cs, .int .i64 lost] := hB4.set_ 0 _
  have hylt := hblk.lt
  have hz4 : w'.heap.size + 1 ≤ w4.heap.size := by have := hg4.size; simpa using this
  have hown5 := ownsRow_keep hown4 ((Keep.refl (fun g => g = y) w4).setCell (p := ⟨y, 0, none⟩) (fun _ => rfl) (.slice A4 (Q.length + 1) c4)) (fun g hg h => by
    subst h
    rcases hat4 with h1 | h1
    · exact (hkv g (h1 ▸ hg)).ne (by decide) hky
    · rw [h1] at hg
      injection hg with hg
      simp at hg
      omega)
  have Hs5 := Lib.hid (show (w4.setCell ⟨y, 0, none⟩ (.slice A4 (Q.length + 1) c4)).heap.size = w4.heap.size by simp)
  have Hat4 : Hid (∀ g, (Value.slice A4 (Q.length + 1) c4).ownBlock = some g → Of κ 1 g ∨ (w'.heap.size ≤ g ∧ g < w4.heap.size)) := Lib.hid (fun g hg => by
    rcases hat4 with h1 | h1
    · exact .inl (hkv g (h1 ▸ hg))
    · rw [h1] at hg
      injection hg with hg
      simp at hg
      exact .inr ⟨by omega, (hown4.lt _ (h1.trans (by rw [← hg]; simp))).2⟩)
  clear K4 hat4 hg4 hown4 hB4 hc4 hf4 hcy hblk hlist hseen hfi p1
  generalize w4.setCell ⟨y, 0, none⟩ (.slice A4 (Q.length + 1) c4) = W5 at *
  have hc5 := hB5.cell
  go_wp2_with (at_builtin; go_must (refine wpList_append_any _ rfl (.tmp 33) (.tmp 34) _ rfl 0 3 j0 _ 1 8 Tryz.underlying150 hj0 hy0 hy1 hy2 rfl (by omega) (.slice As Q.length cs) Q.length _ rfl (hseen5.alloc _) (W5.heap.size + 1) (some ⟨W5.heap.size, 0, none⟩) 1 1 _ rfl (Reads.of_blk (Blk.new W5 _ _) (by omega) rfl) (by simp [Value.oneCell']) (by unfold maxLen; omega) (by omega) (by simp) ?_; intro v6 w6 hown6 hg6 hat6; obtain ⟨A6, c6, rfl⟩ := own_slice hown6; have hB6 := (hB5.alloc (.cells #[.int .i64 0] 3)).grown hg6 (own_ne hseen5 hB5 (by decide)); have hc6 := hB6.cell; have hf6 := hB6.frozen))
  go_ret
  have hB7 : Blk (w6.setCell ⟨y, 1, none⟩ (.slice A6 (Q.length + 1) c6)) y 152 #[.slice A4 (Q.length + 1) c4, .slice A6 (Q.length + 1) c6, .int .i64 lost] := hB6.set_ 1 _
  have hs7 : (w6.setCell ⟨y, 1, none⟩ (.slice A6 (Q.length + 1) c6)).heap.size = w6.heap.size := by simp
  have K7 : Keep (fun g => (Value.slice As Q.length cs).ownBlock = some g ∨ g = y) W5 (w6.setCell ⟨y, 1, none⟩ (.slice A6 (Q.length + 1) c6)) := (((Keep.refl _ W5).alloc _).grown hg6 (fun k h _ => .inl h)).setCell (p := ⟨y, 1, none⟩) (fun _ => .inr rfl) _
  have hs5 := Hs5.out
  have hz6 := K7.size
  have hl7 := ownsRow_keep hown5 K7 (fun g hg h => by
    rcases h with h | h
    · rcases Hat4.out g hg with h1 | h1
      · exact h1.ne (by decide) (hks g h)
      · have := (HM.out.lo g (by rw [show κ g = _ from hks g h]; simp)).2; omega
    · subst h
      rcases Hat4.out g hg with h1 | h1
      · exact h1.ne (by decide) hky
      · omega)
  have hsr7 := ownsRow_keep hown6 ((Keep.refl (fun g => g = y) w6).setCell (p := ⟨y, 1, none⟩) (fun _ => rfl) (.slice A6 (Q.length + 1) c6)) (fun g hg h => by
    subst h
    rcases hat6 with h1 | h1
    · exact (hks g (h1 ▸ hg)).ne (by decide) hky
    · rw [h1] at hg
      injection hg with hg
      simp at hg
      omega)
  have hat6' : ∀ g, (Value.slice A6 (Q.length + 1) c6).ownBlock = some g → Of κ 2 g ∨ (w4.heap.size ≤ g ∧ g < (w6.setCell ⟨y, 1, none⟩ (.slice A6 (Q.length + 1) c6)).heap.size) := fun g hg => by
    have h2 := (hown6.lt g hg).2
    rcases hat6 with h1 | h1
    · exact .inl (hks g (h1 ▸ hg))
    · rw [h1] at hg
      injection hg with hg
      simp at hg
      exact .inr ⟨by omega, by rw [hs7]; exact h2⟩
  have hkW : Keep (fun g => Of κ 0 g ∨ Of κ 1 g ∨ Of κ 2 g) w' (w6.setCell ⟨y, 1, none⟩ (.slice A6 (Q.length + 1) c6)) :=
    (K5.mono (fun g _ h => by rcases h with h | h; exact .inr (.inl (hkv g h)); exact .inl (h ▸ hky))).trans (K7.mono (fun g _ h => by rcases h with h | h; exact .inr (.inr (hks g h)); exact .inl (h ▸ hky)))
  have hA := HM.out.added HD.out hi (fun g hg => Hdj.out g (HF.out g hg)) hkW hB7 hl7 hsr7 (show w'.heap.size ≤ w4.heap.size by omega) (by rw [hs7] at hz6 ⊢; omega) Hat4.out hat6'
  have hzW := hkW.size
  refine ⟨rfl, ⟨⟨_, _, _, hA, fun g hg => ?_⟩, fun g hg => ?_⟩, hkW.mono (fun g _ h => by rcases h with h | h | h <;> exact HF.out g (by rw [show κ g = _ from h]; simp))⟩
  · unfold rtint at hg
    split at hg
    · exact .inl (.inr (by assumption))
    · split at hg
      · split at hg
        · exact .inr ⟨by assumption, by omega⟩
        · split at hg
          · exact .inr ⟨by assumption, by assumption⟩
          · exact absurd rfl hg
      · exact .inl (.inl (HF.out g hg))
  · have hB := HM.out.Ble
    rcases hg with (hg | hg) | hg
    · have := HL.out g hg; omega
    · have := HD.out.lo g hg; omega
    · omega
end Go.Proofs.YtlldgfejcjnpkaaGreat
/- The reference's mux: Receive. -/
namespace Go.Proofs.YtlldgfejcjnpkaaGreat
open Go.RowKit
set_option maxHeartbeats 10000000
set_option maxRecDepth 100000

section
variable {B : Nat} {w w' : World} {y i g c : Nat} {Q : List QRow} {lost : Int} {κ : Nat → Option Nat} {F S : Nat → Prop} {q : QRow} {vl vs : Value}
theorem RMuxAt.onLost (h : RMuxAt B w y Q lost κ vl vs) (n : Int) : RMuxAt B (w.setCell ⟨y, 2, none⟩ (.int .i64 n)) y Q n κ vl vs ∧ Keep (fun x => x = y) w (w.setCell ⟨y, 2, none⟩ (.int .i64 n)) := by
  have hk : Keep (fun x => x = y) w (w.setCell ⟨y, 2, none⟩ (.int .i64 n)) := (Keep.refl (fun x => x = y) w).setCell (p := ⟨y, 2, none⟩) (fun _ => rfl) _
  have hS : ∀ t x, t ≠ 0 → Of κ t x → ¬ x = y := fun t x ht hx e => (hx.ne ht) (e ▸ h.ky)
  exact ⟨⟨h.blk.set_ 2 _, ownsRow_keep h.list hk (fun x hx => hS 1 x (by decide) (h.kv x hx)), ownsRow_keep h.seen hk (fun x hx => hS 2 x (by decide) (h.ks x hx)), fun j p hp => ⟨(h.dev j p hp).1.keepS hk (fun x => hS _ x (by omega)), (h.dev j p hp).2⟩, h.ky, h.kv, h.ks, fun x hx => by have := h.lo x hx; simpa using this⟩, hk⟩
theorem RMuxAt.onSeen (h : RMuxAt B w y Q lost κ vl (.slice (some ⟨g, 0, none⟩) Q.length c)) (hq : Q[i]? = some q) (n : Int) :
    RMuxAt B (w.setCell ⟨g, i, none⟩ (.int .i64 n)) y (Q.set i { q with seen := n }) lost κ vl (.slice (some ⟨g, 0, none⟩) Q.length c) ∧ Keep (fun x => x = g) w (w.setCell ⟨g, i, none⟩ (.int .i64 n)) := by
  have hk : Keep (fun x => x = g) w (w.setCell ⟨g, i, none⟩ (.int .i64 n)) := (Keep.refl (fun x => x = g) w).setCell (p := ⟨g, i, none⟩) (fun _ => rfl) _
  have hg : Of κ 2 g := h.ks g rfl
  have hS : ∀ t x, t ≠ 2 → Of κ t x → ¬ x = g := fun t x ht hx e => (hx.ne ht) (e ▸ hg)
  refine ⟨⟨h.blk.keep hk (hS 0 _ (by decide) h.ky), ?_, ?_, fun j p hp => ?_, h.ky, h.kv, h.ks, fun x hx => by have := h.lo x hx; simpa using this⟩, hk⟩
  · rw [List.length_set, map_set_same qptr (u := { q with seen := n }) hq rfl]
    exact ownsRow_keep h.list hk (fun x hx => hS 1 x (by decide) (h.kv x hx))
  · rw [List.length_set, List.map_set]
    exact own_set1 h.seen i _
  · rcases set_get hp with ⟨rfl, rfl, _⟩ | ⟨hne, hp⟩
    · exact ⟨(h.dev _ q hq).1.keepS hk (fun x => hS _ x (by omega)), (h.dev _ q hq).2⟩
    · exact ⟨(h.dev j p hp).1.keepS hk (fun x => hS _ x (by omega)), (h.dev j p hp).2⟩
end
theorem rmuxReceive_bad (B y : Nat) (Q : List QRow) (lost : Int) (F : Nat → Prop) (A : Option Addr) (n c Br : Nat) (l : List UInt8) (w : World) (hM : RMuxIs B w y Q lost F) (h8 : Q.length ≤ 8) (hs : 0 ≤ lost ∧ lost < 4294967295)
    (he : (decodeM l).2 ≠ 0 ∨ ∀ q ∈ Q, q.code ≠ (decodeM l).1.code) (hr : Reads w Br 1 A n (u8c l)) (hB : Br ≤ w.heap.size) (hc : n ≤ c) :
    Calls Tryz.prog 85 #[.pointer (some ⟨y, 0, none⟩), .slice A n c] w fun e w' => e = .returned (.tuple #[.int .u32 0, .slice none 0 0, .int .i64 (if (decodeM l).2 = 0 then 44 else (decodeM l).2)]) ∧ RMuxTo B w y Q (lost + 1) F w' := by
  have hdec := r4decode_any A n c Br l w hr hB hc
  obtain ⟨⟨κ, vl, vs, hM, hF⟩, hlo⟩ := hM
  have hff : (decodeM l).2 = 0 → findQ Q (decodeM l).1.code = -1 := fun h0 => findQ_none (he.elim (fun h => absurd h0 h) id)
  clear he hr
  generalize decodeM l = d at *
  obtain ⟨⟨kind, code, session, number, flags, data⟩, er⟩ := d
  simp only at *
  obtain ⟨E, HE⟩ : ∃ E : Int, Hid (E = if er = 0 then 44 else er) := ⟨_, Lib.hid rfl⟩
  rw [← HE.out]
  have HM := Lib.hid hM
  have HF := Lib.hid hF
  have HL := Lib.hid hlo
  clear hM hF hlo
  go_enter Tryz.func85, Tryz.ntmps85
  go_wp2_with fail
  refine hdec.mono ?_
  rintro e w1 ⟨v, rfl, hown, hb1⟩
  obtain ⟨Av, cv, rfl⟩ := own_slice hown
  unfold unitVal
  simp only
  have hbU := (Below.refl w1.heap.size w1).alloc (Nat.le_refl _) (.cells #[.int .i64 kind, .int .u32 code, .int .u32 session, .int .u32 number, .int .i64 flags, .slice Av data.length cv] 64)
  have hU := Blk.new w1 64 #[.int .i64 kind, .int .u32 code, .int .u32 session, .int .u32 number, .int .i64 flags, .slice Av data.length cv]
  have hb2 := hb1.trans (hbU.mono hb1.size)
  have hM2 := HM.out.below hb2
  have hs2 := hb2.size
  clear hdec hown hbU hb1
  go_upto_region 2 with fail
  obtain ⟨gU, HgU⟩ : ∃ g, Hid (g = w1.heap.size) := ⟨_, Lib.hid rfl⟩
  rw [← HgU.out] at hU ⊢
  generalize w1.alloc (.cells _ 64) = W at *
  have hcU := hU.cell
  have hfi := rmuxFind_any B y Q lost κ vl vs code W hM2 h8
  go_wp2_with fail
  refine hfi.mono ?_
  rintro e w2 ⟨rfl, rfl⟩
  obtain ⟨hM3, hk3⟩ := hM2.onLost (lost + 1)
  have hc2 := hM2.blk.cell
  have hf2 := hM2.blk.frozen
  have hw64 : IntKind.i64.wrap (lost + 1) = lost + 1 := IntWalk.i64_in _ (by omega)
  have hs4 : (w2.setCell ⟨y, 2, none⟩ (.int .i64 (lost + 1))).heap.size = w2.heap.size := by simp
  have Hto : Hid (RMuxTo B w y Q (lost + 1) F (w2.setCell ⟨y, 2, none⟩ (.int .i64 (lost + 1)))) := Lib.hid (by
    refine ⟨⟨⟨κ, vl, vs, hM3, fun g hg => .inl (HF.out g hg)⟩, fun g hg => ?_⟩, (Keep.of_below hb2).trans (hk3.mono (fun g _ hg => HF.out g (by rw [hg, show κ y = _ from hM2.ky]; simp)))⟩
    have hB := HM.out.Ble
    rcases hg with hg | hg
    · have := HL.out g hg; omega
    · omega)
  clear hM3 hk3 hs4 hfi hU hM2 hb2
  by_cases h0 : er = 0
  · subst h0
    have hf1 := hff rfl
    rw [hf1]
    clear hff hf1
    go_wp2_with fail
    refine bodyPost_ret (v := .tuple #[.int .u32 0, .slice none 0 0, .int .i64 44]) (by simp [results, Tryz.results85, go_sem]) rfl ⟨by simp [HE.out], Hto.out⟩
  · have g0 : (er == 0) = false := by simpa using h0
    have g1 : (er != 0) = true := by simpa using h0
    clear hff
    go_wp2_with fail
    refine bodyPost_ret (v := .tuple #[.int .u32 0, .slice none 0 0, .int .i64 er]) (by simp [results, Tryz.results85, go_sem]) rfl ⟨by simp [HE.out, h0], Hto.out⟩
theorem rmuxReceive_ok (B y : Nat) (Q : List QRow) (lost : Int) (F : Nat → Prop) (A : Option Addr) (n c Br : Nat) (l : List UInt8) (w : World) (hM : RMuxIs B w y Q lost F) (h8 : Q.length ≤ 8) {i : Nat} {q : QRow} (hq : Q[i]? = some q) (hs : 0 ≤ q.seen ∧ q.seen < 4294967295) (hlen : q.m.log.length < 1073741700)
    (he : (decodeM l).2 = 0) (hcode : q.code = (decodeM l).1.code) (hff : findQ Q q.code = (i : Int)) (hr : w.ownsRow Br 5 1 (.slice A n c) n (u8c l)) (hAF : ∀ g, (Value.slice A n c).ownBlock = some g → ¬ F g) :
    Calls Tryz.prog 85 #[.pointer (some ⟨y, 0, none⟩), .slice A n c] w fun e w' => ∃ v, e = .returned (.tuple #[.int .u32 q.code, v, .int .i64 (q.m.receive l).2.2]) ∧ w'.ownsRow w.heap.size 5 1 v (q.m.receive l).2.1.length (u8c (q.m.receive l).2.1) ∧ RMuxTo B w y (Q.set i { q with m := (q.m.receive l).1, seen := q.seen + 1 }) lost F w' := by
  have hc := own_cap hr
  have hdec := r4decode_any A n c w.heap.size l w (Reads.of_own hr) (Nat.le_refl _) hc
  obtain ⟨⟨κ, vl, vs, hM, hF⟩, hlo⟩ := hM
  have hil := (List.getElem?_eq_some_iff.1 hq).1
  obtain ⟨As, cs, rfl⟩ := own_slice hM.seen
  obtain ⟨g, hg⟩ := own_some hM.seen (by omega)
  subst hg
  have hin := (hM.dev i q hq).2.receive l
  have hrv := fun (W : World) (h : RMuxAt B W y (Q.set i { q with seen := q.seen + 1 }) lost κ vl (.slice (some ⟨g, 0, none⟩) Q.length cs)) (hr : Reads W W.heap.size 1 A n (u8c l)) =>
    rdReceive_any B q.b q.mb q.m (Of κ (2 * i + 11)) A n c W.heap.size l W (h.dev i { q with seen := q.seen + 1 } (by rw [List.getElem?_set]; simp [hil])).1 (hM.dev i q hq).2 hlen hr (Nat.le_refl _) hc
  generalize hqq : q.m.receive l = r at *
  have Hhr := Lib.hid hr
  generalize decodeM l = d at *
  obtain ⟨⟨kind, code, session, number, flags, data⟩, er⟩ := d
  simp only at he hcode hdec
  subst he hcode
  obtain ⟨q1, q2, q3⟩ := r
  simp only at *
  have HM := Lib.hid hM
  have HF := Lib.hid hF
  have HL := Lib.hid hlo
  have Hq := Lib.hid hq
  clear hM hF hlo hq hr
  go_enter Tryz.func85, Tryz.ntmps85
  go_wp2_with fail
  refine hdec.mono ?_
  rintro e w1 ⟨v, rfl, hown, hb1⟩
  obtain ⟨Av, cv, rfl⟩ := own_slice hown
  unfold unitVal
  simp only
  have hbU := (Below.refl w1.heap.size w1).alloc (Nat.le_refl _) (.cells #[.int .i64 kind, .int .u32 q.code, .int .u32 session, .int .u32 number, .int .i64 flags, .slice Av data.length cv] 64)
  have hU := Blk.new w1 64 #[.int .i64 kind, .int .u32 q.code, .int .u32 session, .int .u32 number, .int .i64 flags, .slice Av data.length cv]
  have hb2 := hb1.trans (hbU.mono hb1.size)
  have hM2 := HM.out.below hb2
  have hr2 := own_below Hhr.out hb2
  have hs1 := hb1.size
  have hs2 := hb2.size
  clear hdec hown hbU hb1
  go_upto_region 2 with fail
  obtain ⟨gU, HgU⟩ : ∃ g, Hid (g = w1.heap.size) := ⟨_, Lib.hid rfl⟩
  rw [← HgU.out] at hU ⊢
  generalize w1.alloc (.cells _ 64) = W at *
  have hcU := hU.cell
  have hfi := rmuxFind_any B y Q lost κ vl _ q.code W hM2 h8
  rw [hff] at hfi
  go_wp2_with fail
  refine hfi.mono ?_
  rintro e w2 ⟨rfl, rfl⟩
  obtain ⟨hM3, hk3⟩ := hM2.onSeen Hq.out (q.seen + 1)
  have hc2 := hM2.blk.cell
  obtain ⟨ad, cl, rfl, hpt⟩ := hM2.ptrAt Hq.out
  have hge : ¬ (i : Int) < 0 := by omega
  have hil' : (i : Int) < (Q.length : Int) := by omega
  have hw64 : IntKind.i64.wrap (q.seen + 1) = q.seen + 1 := IntWalk.i64_in _ (by omega)
  have hps : w2.cell? ⟨g, i, none⟩ = some (.int .i64 q.seen) := by
    have h1 := hM2.seen.cellAt i (by omega)
    rw [h1, List.getElem?_map, Hq.out]
    rfl
  have hpf : w2.frozen? ⟨g, i, none⟩ = false := (own_at (k := i) hM2.seen).1
  have Hto := Lib.hid hM3
  have HM2 := Lib.hid hM2
  have Hk3 := Lib.hid hk3
  clear hM3 hk3 hM2 hfi
  have hcZ : (w2.setCell ⟨g, i, none⟩ (.int .i64 (q.seen + 1))).heap.size = w2.heap.size := by simp
  have HcZ := Lib.hid hcZ
  have hptq := hpt
  unfold qptr at hptq
  clear hcZ hpt
  go_upto_region 8 with fail
  go_region
  have hgF : Of κ 2 g := HM2.out.ks g rfl
  have hAs : ∀ z, (Value.slice A n c).ownBlock = some z → ¬ z = g := fun z hz e => hAF z hz (HF.out z (by rw [e, show κ g = _ from hgF]; simp))
  have hglt : g < w.heap.size := (HM.out.lo g (by rw [show κ g = _ from hgF]; simp)).2
  have hbd := (Below.refl (w2.setCell ⟨g, i, none⟩ (.int .i64 (q.seen + 1))).heap.size (w2.setCell ⟨g, i, none⟩ (.int .i64 (q.seen + 1)))).drew
  have hr4 := own_below (ownsRow_keep hr2 Hk3.out hAs) hbd
  have hU4 := (hU.keep Hk3.out (by have := HgU.out; omega)).drew
  have hM4 := Hto.out.below hbd
  have hset : (Q.set i { q with seen := q.seen + 1 })[i]? = some { q with seen := q.seen + 1 } := by rw [List.getElem?_set]; simp [hil]
  obtain ⟨ad4, cl4, e4, hpt4⟩ := hM4.ptrAt hset
  injection e4 with e4 e5 e6
  injection e4 with e4
  subst e4
  clear e5 e6
  unfold qptr at hpt4
  have hcall := hrv _ hM4 (Reads.of_own hr4)
  have hc4 := hM4.blk.cell
  have Hb4 := Lib.hid ((Keep.of_below (S := F) hb2).trans ((Hk3.out.mono (fun z _ hz => HF.out z (by rw [hz, show κ g = _ from hgF]; simp))).trans (Keep.of_below hbd)))
  have Hs4 := Lib.hid (show w.heap.size ≤ (w2.setCell ⟨g, i, none⟩ (.int .i64 (q.seen + 1))).drew.heap.size by have := HcZ.out; show w.heap.size ≤ (w2.setCell ⟨g, i, none⟩ (.int .i64 (q.seen + 1))).heap.size; omega)
  clear hcU hU hc2 hps hpf hptq hbd Hto Hk3 HcZ
  generalize (w2.setCell ⟨g, i, none⟩ (.int .i64 (q.seen + 1))).drew = W4 at *
  unfold RDAns at hcall
  go_wp2_with fail
  refine hcall.mono ?_
  rintro e w5 ⟨v5, rfl, hv5, ht⟩
  have hU5 := hU4.keep ht.too.keep (fun h => by have h1 := (HM.out.lo gU (by rw [show κ gU = _ from h]; simp)).2; have h2 := HgU.out; omega)
  have hcU5 := hU5.cell
  have hs5 := ht.too.keep.size
  go_wp2_with fail
  refine bodyPost_ret (v := .tuple #[.int .u32 q.code, v5, .int .i64 q3]) (by simp [results, Tryz.results85, go_sem]) rfl ⟨v5, rfl, own_base hv5 Hs4.out, ?_⟩
  have hM5 := hM4.onDev hset ht.too hin
  rw [List.set_set] at hM5
  have hsw := Hs4.out
  refine ⟨⟨⟨_, _, _, hM5, fun z hz => (paint_sub HF.out z hz).imp id (fun h => ⟨by omega, h.2⟩)⟩, fun z hz => ?_⟩, Hb4.out.trans (ht.too.keep.mono (fun z _ hz => HF.out z (by rw [show κ z = _ from hz]; simp)))⟩
  have hB := HM.out.Ble
  rcases hz with hz | hz
  · have := HL.out z hz; omega
  · omega
end Go.Proofs.YtlldgfejcjnpkaaGreat
/- parapetref16.rising: numbers, sorted. -/
namespace Go.Proofs.YtlldgfejcjnpkaaGreat
open Go.RowKit
set_option maxHeartbeats 10000000
set_option maxRecDepth 100000

theorem Reads.front32 {w : World} {B : Nat} {A : Option Addr} {n : Nat} {xs : List Value} (h : Reads w B 1 A n xs) {p : Nat} (hp : p ≤ n) : Reads w B 1 A p (xs.take p) := by
  refine ⟨by have := h.1; rw [List.length_take]; omega, fun hn => ?_⟩
  obtain ⟨ad, e, hb, hc⟩ := h.2 (by omega)
  exact ⟨ad, e, hb, fun j u hu => hc j u (by
    rcases Nat.lt_or_ge j p with hj | hj
    · rwa [List.getElem?_take_of_lt hj] at hu
    · rw [List.getElem?_eq_none (by rw [List.length_take]; omega)] at hu; cases hu)⟩
theorem ins_belowA {Wi W' : World} {z e : Obj} (hg : (((Wi.alloc z).alloc e).drew).grownBy W' (some Wi.heap.size)) : Below Wi.heap.size Wi W' :=
  (((((Below.refl Wi.heap.size Wi).alloc (Nat.le_refl _) z).alloc (by simp) e).drew).grown hg (by show _ ≤ ((Wi.alloc z).alloc e).heap.size; simp; omega) (fun k hk => by injection hk with hk; omega))
theorem ins_belowB {Wi W' : World} {z : Obj} (hg : ((Wi.alloc z).drew).grownBy W' (some Wi.heap.size)) : Below Wi.heap.size Wi W' :=
  ((((Below.refl Wi.heap.size Wi).alloc (Nat.le_refl _) z).drew).grown hg (by show _ ≤ (Wi.alloc z).heap.size; simp) (fun k hk => by injection hk with hk; omega))
theorem ins_belowC {Wi W' : World} {z e : Obj} (hg : (((Wi.alloc e).alloc z).drew).grownBy W' (some (Wi.heap.size + 1))) : Below Wi.heap.size Wi W' :=
  (((((Below.refl Wi.heap.size Wi).alloc (Nat.le_refl _) e).alloc (by simp) z).drew).grown hg (by show _ ≤ ((Wi.alloc e).alloc z).heap.size; simp; omega) (fun k hk => by injection hk with hk; omega))
theorem ins_elemA {Wi W' : World} {z : Obj} {t : TypeId} {cs : Array Value} (hg : (((Wi.alloc z).alloc (.cells cs t (0, 0))).drew).grownBy W' (some Wi.heap.size)) : Blk W' (Wi.heap.size + 1) t cs :=
  Blk.grown (Blk.drew (Blk.new' (Wi.alloc z) t cs (by simp))) hg (by simp)
theorem ins_elemC {Wi W' : World} {z : Obj} {t : TypeId} {cs : Array Value} (hg : (((Wi.alloc (.cells cs t (0, 0))).alloc z).drew).grownBy W' (some (Wi.heap.size + 1))) : Blk W' Wi.heap.size t cs :=
  Blk.grown (Blk.drew ((Blk.new Wi t cs).alloc z)) hg (by simp)
theorem ins_madeC {Wi : World} {o : Obj} {base : Nat} {t : TypeId} (h : base ≤ Wi.heap.size) : ((Wi.alloc o).alloc (.cells #[] t)).drew.ownsRow base t 1 (.slice (some ⟨Wi.heap.size + 1, 0, none⟩) 0 0) 0 [] := by
  have e : (Wi.alloc o).heap.size = Wi.heap.size + 1 := by simp
  exact e ▸ (World.ownsRow_made (base := base) (e := t) (size := 1) (Wi.alloc o) #[] 0 (by omega) (by unfold maxLen; omega) rfl).drew
theorem ins_new {B s : Nat} {o o0 : Option Nat} (h : o = o0 ∨ o = some s) (h0 : ∀ k, o0 = some k → B ≤ k) (hs : B ≤ s) : ∀ k, o = some k → B ≤ k := by
  intro k hk
  rcases h with h | h
  · exact h0 k (h ▸ hk)
  · rw [h] at hk; injection hk with hk; omega
theorem u32_one {l : List Int} : ∀ u ∈ u32c l, u.oneCell' = true := by
  intro u hu
  obtain ⟨x, _, rfl⟩ := List.mem_map.1 hu
  rfl
theorem ins_sorted {ks : List Int} {x : Int} {p : Nat} (h : ks.Pairwise (· ≤ ·)) (hp : p ≤ ks.length) (h1 : ∀ j (hj : j < ks.length), j < p → ks[j] < x) (h2 : ∀ j (hj : j < ks.length), p ≤ j → x ≤ ks[j]) :
    (ks.take p ++ [x] ++ ks.drop p).Pairwise (· ≤ ·) := by
  rw [List.append_assoc, List.pairwise_append]
  refine ⟨h.sublist (List.take_sublist _ _), ?_, ?_⟩
  · rw [List.singleton_append, List.pairwise_cons]
    refine ⟨fun z hz => ?_, h.sublist (List.drop_sublist _ _)⟩
    obtain ⟨j, hj, rfl⟩ := List.getElem_of_mem hz
    rw [List.getElem_drop]
    exact h2 _ _ (by omega)
  · intro z hz y hy
    obtain ⟨j, hj, rfl⟩ := List.getElem_of_mem hz
    rw [List.getElem_take]
    have hj' : j < p := by rw [List.length_take] at hj; omega
    have hx1 := h1 j (by rw [List.length_take] at hj; omega) hj'
    rcases List.mem_append.1 hy with hy | hy
    · simp only [List.mem_singleton] at hy
      omega
    · obtain ⟨i, hi, rfl⟩ := List.getElem_of_mem hy
      rw [List.getElem_drop]
      have := h2 (p + i) (by rw [List.length_drop] at hi; omega) (by omega)
      omega
theorem ins_perm (ks : List Int) (x : Int) (p : Nat) : (ks.take p ++ [x] ++ ks.drop p).Perm (ks ++ [x]) := by
  have h1 : (ks.take p ++ [x] ++ ks.drop p).Perm (ks.take p ++ ks.drop p ++ [x]) := by
    rw [List.append_assoc, List.append_assoc]
    exact (List.perm_append_comm).append_left _
  rw [List.take_append_drop] at h1
  exact h1
theorem rising_rel {w Wi W57 W61 : World} {l ks : List Int} {x : Int} {n i q p : Nat} {e : TypeId} {A57 A61 : Option Addr} {c57 c61 : Nat}
    (hiq : i + q = n) (hlt : i < n) (hx : l[i]? = some x) (hk : ks.Pairwise (· ≤ ·) ∧ ks.Perm (l.take i)) (hp : p ≤ ks.length)
    (h1 : ∀ j (hj : j < ks.length), j < p → ks[j] < x) (h2 : ∀ j (hj : j < ks.length), p ≤ j → x ≤ ks[j])
    (hown : W61.ownsRow w.heap.size e 1 (.slice A61 (p + 1 + (ks.length - p)) c61) (p + 1 + (ks.length - p)) ([] ++ (u32c ks).take p ++ #[Value.int .u32 x].toList ++ (u32c ks).drop p))
    (hb : Below w.heap.size w Wi) (hb57 : Below Wi.heap.size Wi W57) (hg61 : W57.grownBy W61 (Value.slice A57 (p + 1) c57).ownBlock)
    {xs : List Value} (hown57 : W57.ownsRow w.heap.size e 1 (.slice A57 (p + 1) c57) (p + 1) xs) :
    ∃ (i' : Nat) (ks' : List Int), Value.int .i64 ((i : Int) + 1) = .int .i64 i' ∧ i' + (n - (i + 1)) = n ∧ Hid (ks'.Pairwise (· ≤ ·) ∧ ks'.Perm (l.take i')) ∧ W61.ownsRow w.heap.size e 1 (.slice A61 (p + 1 + (ks.length - p)) c61) ks'.length (u32c ks') ∧ Below w.heap.size w W61 := by
  refine ⟨i + 1, ks.take p ++ [x] ++ ks.drop p, by go_num, by omega, Lib.hid ⟨ins_sorted hk.1 hp h1 h2, ?_⟩, ?_, ?_⟩
  · rw [List.take_add_one, hx]
    exact (ins_perm ks x p).trans (hk.2.append_right _)
  · have e1 : (ks.take p ++ [x] ++ ks.drop p).length = p + 1 + (ks.length - p) := by
      rw [List.length_append, List.length_append, List.length_take, List.length_drop, List.length_singleton]; omega
    have e2 : u32c (ks.take p ++ [x] ++ ks.drop p) = [] ++ (u32c ks).take p ++ #[Value.int .u32 x].toList ++ (u32c ks).drop p := by
      simp [u32c, List.map_take, List.map_drop]
    rw [e1, e2]; exact hown
  · exact (hb.trans (hb57.mono hb.size)).grown hg61 (by have := hb.size; have := hb57.size; omega) (fun k hk => (hown57.lt k hk).1)
theorem rising_any (A : Option Addr) (n c Br : Nat) (l : List Int) (w : World) (hr : Reads w Br 1 A n (u32c l)) (hB : Br ≤ w.heap.size) (_hc : n ≤ c) (hn : n ≤ 8) :
    Calls Tryz.prog 137 #[.slice A n c] w fun e w' => ∃ v, e = .returned v ∧ w'.ownsRow w.heap.size 34 1 v n (u32c (sortI l)) ∧ Below w.heap.size w w' := by
  have hl : l.length = n := by have := hr.1; simpa [u32c] using this
  have Hl := Lib.hid hl
  have Hr := Lib.hid (hr.more hB)
  clear hl hr
  obtain ⟨i0, hi0, hz0, hz1, hz2⟩ := info_parts u32_info
  go_enter Tryz.func137, Tryz.ntmps137
  go_wp2_with fail
  go_loopg [3, 4] n (fun q v3 v4 wr => ∃ (i : Nat) (ks : List Int), v4 = .int .i64 i ∧ i + q = n ∧ Hid (ks.Pairwise (· ≤ ·) ∧ ks.Perm (l.take i)) ∧ wr.ownsRow w.heap.size 34 1 v3 ks.length (u32c ks) ∧ Below w.heap.size w wr)
  case atStart => exact ⟨0, [], rfl, by omega, Lib.hid ⟨List.Pairwise.nil, by simp⟩, by simpa [u32c] using World.ownsRow_nil w w.heap.size 34 1, Below.refl _ _⟩
  case round =>
    obtain ⟨i, ks, rfl, hiq, Hk, hown, hb⟩ := hrel
    by_cases hlt : i < n
    · obtain ⟨A3, c3, rfl⟩ := own_slice hown
      have hkl : ks.length ≤ i := by rw [Hk.out.2.length_eq, List.length_take]; omega
      have hx : l[i]? = some (l[i]'(by rw [Hl.out]; exact hlt)) := List.getElem?_eq_getElem _
      generalize l[i]'(by rw [Hl.out]; exact hlt) = x at hx
      have Hx := Lib.hid hx
      have Hiq := Lib.hid hiq
      have hlt' : ((i : Nat) : Int) < (n : Int) := by omega
      clear hx hiq
      go_wp2_with fail
      go_loopg [5] n (fun q v5 wl => ∃ (p : Nat), v5 = .int .i64 p ∧ p + q = n ∧ p ≤ ks.length ∧ Hid (∀ j (hj : j < ks.length), j < p → ks[j] < x) ∧ wl.ownsRow w.heap.size 34 1 (.slice A3 ks.length c3) ks.length (u32c ks) ∧ Below w.heap.size w wl)
      case atStart => exact ⟨0, rfl, by omega, Nat.zero_le _, Lib.hid (fun j _ h => absurd h (by omega)), hown, hb⟩
      case round =>
        clear hown hb
        obtain ⟨p, rfl, hpq, hp, Hp, hown, hb⟩ := hrel
        obtain ⟨Wl, rfl⟩ : ∃ W : World, W = wr := ⟨_, rfl⟩
        obtain ⟨ad, _, hA, hadB, _, _⟩ := Hr.out.at_ hlt
        subst hA
        obtain ⟨ad', hA', pl⟩ := reads_u32 (Hr.out.below hb) hlt Hx.out
        injection hA' with hA'
        subst hA'
        have Hpq := Lib.hid hpq
        clear hpq
        by_cases hpl : p < ks.length
        · obtain ⟨g3, rfl, hcell3⟩ := own_cell1 hown (by omega)
          have hc3 : Wl.cell? ⟨g3, p, none⟩ = some (.int .u32 (ks[p]'hpl)) := by
            have h := hcell3 p (by simpa [u32c] using hpl)
            simpa [u32c] using h
          have Hpp := Lib.hid (show ks[p]? = some (ks[p]'hpl) from List.getElem?_eq_getElem hpl)
          have hpl' : ((p : Nat) : Int) < (ks.length : Int) := by omega
          clear hcell3
          by_cases hlt1 : ks[p]'hpl < x
          · have Hlt := Lib.hid hlt1
            have hd : decide (ks[p]'hpl < x) = true := by simpa using hlt1
            clear hlt1
            go_wp2_with fail
            go_quiet (fail)
            go_wp2_with fail
            go_roundg (n - (p + 1))
            case measure => have := Hpq.out; omega
            case rel =>
              have h1 := Hpq.out
              exact ⟨p + 1, by go_num, by omega, by omega, Lib.hid (fun j hj h => by
                rcases Nat.lt_or_ge j p with h' | h'
                · exact Hp.out j hj h'
                · have : j = p := by omega
                  subst this
                  exact Hlt.out), own_below hown (belowN (Below.refl _ _) _), hb.trans ((belowN (Below.refl Wl.heap.size Wl) _).mono hb.size)⟩
          · have Hgt := Lib.hid (show ∀ j (hj : j < ks.length), p ≤ j → x ≤ ks[j] from fun j hj h => by
              rcases Nat.lt_or_ge p j with h' | h'
              · have := List.pairwise_iff_getElem.1 Hk.out.1 p j hpl hj h'
                omega
              · have : j = p := by omega
                subst this
                omega)
            have hd : decide (ks[p]'hpl < x) = false := by simpa using hlt1
            clear hlt1
            go_wp2_with fail
            go_quiet (fail)
            go_wp2_with fail
            have hownW := own_below hown (belowN (Below.refl Wl.heap.size Wl) nq)
            have hbW := hb.trans ((belowN (Below.refl Wl.heap.size Wl) nq).mono hb.size)
            clear hown hb pl hc3
            generalize Wl.drewN nq = Wi at *
            have hb := hbW
            have hown := hownW
            have hbs := hb.size
            obtain ⟨ad', hA', pl⟩ := reads_u32 (Hr.out.below hb) hlt Hx.out
            injection hA' with hA'
            subst hA'
            have hclB : ∀ W', Below Wi.heap.size Wi W' → W'.cell? (ad.add i) = some (.int .u32 x) := fun W' h => (h.cell (show (ad.add i).block < Wi.heap.size by rw [block_of_add]; omega)).trans pl
            have hplD := hclB Wi.drew (Below.refl _ Wi).drew
            have hplA := fun z => hclB ((Wi.alloc z).drew) ((Below.refl _ Wi).alloc (Nat.le_refl _) z).drew
            have hrd := Reads.of_own hown
            have hlc : ks.length ≤ c3 := by
              rcases hown.2 with ⟨h, h0⟩ | ⟨g, cap, cur, h, _, _, h1, _⟩
              · injection h with _ _ h3; omega
              · injection h with _ _ h3; omega
            have hcut : Reads Wi Wi.heap.size 1 (if c3 = p then some ⟨g3, 0, none⟩ else some ⟨g3, p, none⟩) (ks.length - p) (List.drop p (u32c ks)) := by
              have h := hrd.cut hp hlc
              rw [Nat.mul_one] at h
              simpa only [Option.map_some, addr_add0] using h
            have hpc : p ≤ c3 := by omega
            have hpcz : (p : Int) ≤ c3 := by omega
            have hp0 : 0 ≤ (p : Int) := by omega
            have hpl2 : (p : Int) ≤ ks.length := by omega
            have Hown := Lib.hid hown
            clear hown hownW hbW
            go_region_law (first  | (refine step_append_any _ rfl (.tmp 29) (.tmp 32) _ rfl w.heap.size 34 i0 _ 1 4 Tryz.underlying68 hi0 hz0 hz1 hz2 rfl (by omega) (.slice (some ⟨Wi.heap.size, 0, none⟩) 0 0) 0 [] rfl ((World.ownsRow_made (base := w.heap.size) (e := 34) (size := 1) Wi #[] 0 hb.size (by unfold maxLen; omega) rfl).alloc _).drew Wi.heap.size _ p c3 _ rfl (((hrd.front32 hp).alloc (Nat.le_refl _) _).alloc (by simp) _).drew (fun u hu => u32_one u (List.mem_of_mem_take hu)) (by unfold maxLen; omega) (by omega) (by have := hb.size; show _ ≤ ((Wi.alloc _).alloc _).heap.size; simp; omega) ?_; intro v54 W54 hown54 hg54 hat54; obtain ⟨A54, c54, rfl⟩ := own_slice hown54; rw [Nat.zero_add] at hown54 hat54; have hb54 : Below Wi.heap.size Wi W54 := ins_belowA hg54; have hcl54 := hclB W54 hb54; have hE54 := ins_elemA hg54; have hn54 : ∀ k, (Value.slice A54 p c54).ownBlock = some k → Wi.heap.size ≤ k := ins_new hat54 (fun k hk => by have hk := Option.some.inj hk; (try simp at hk); omega) (by show _ ≤ ((Wi.alloc _).alloc _).heap.size; simp; omega)) | (refine step_append_any _ rfl (.tmp 29) (.tmp 32) _ rfl w.heap.size 34 i0 _ 1 4 Tryz.underlying68 hi0 hz0 hz1 hz2 rfl (by omega) (.slice (some ⟨Wi.heap.size, 0, none⟩) 0 0) 0 [] rfl (World.ownsRow_made (base := w.heap.size) (e := 34) (size := 1) Wi #[] 0 hb.size (by unfold maxLen; omega) rfl).drew Wi.heap.size _ p c3 _ rfl ((hrd.front32 hp).alloc (Nat.le_refl _) _).drew (fun u hu => u32_one u (List.mem_of_mem_take hu)) (by unfold maxLen; omega) (by omega) (by have := hb.size; show _ ≤ (Wi.alloc _).heap.size; simp; try omega) ?_; intro v54 W54 hown54 hg54 hat54; obtain ⟨A54, c54, rfl⟩ := own_slice hown54; rw [Nat.zero_add] at hown54 hat54; have hb54 : Below Wi.heap.size Wi W54 := ins_belowB hg54; have hcl54 := hclB W54 hb54;  have hn54 : ∀ k, (Value.slice A54 p c54).ownBlock = some k → Wi.heap.size ≤ k := ins_new hat54 (fun k hk => Nat.le_of_eq (Option.some.inj hk)) (by show _ ≤ (Wi.alloc _).heap.size; simp)) | (refine step_append_any _ rfl (.tmp 29) (.tmp 32) _ rfl w.heap.size 34 i0 _ 1 4 Tryz.underlying68 hi0 hz0 hz1 hz2 rfl (by omega) (.slice (some ⟨Wi.heap.size + 1, 0, none⟩) 0 0) 0 [] rfl (ins_madeC hb.size) Wi.heap.size _ p c3 _ rfl (((hrd.front32 hp).alloc (Nat.le_refl _) _).alloc (by simp) _).drew (fun u hu => u32_one u (List.mem_of_mem_take hu)) (by unfold maxLen; omega) (by omega) (by have := hb.size; show _ ≤ ((Wi.alloc _).alloc _).heap.size; simp; omega) ?_; intro v54 W54 hown54 hg54 hat54; obtain ⟨A54, c54, rfl⟩ := own_slice hown54; rw [Nat.zero_add] at hown54 hat54; have hb54 : Below Wi.heap.size Wi W54 := ins_belowC hg54; have hcl54 := hclB W54 hb54; have hE54 := ins_elemC hg54; have hn54 : ∀ k, (Value.slice A54 p c54).ownBlock = some k → Wi.heap.size ≤ k := ins_new hat54 (fun k hk => by have hk := Option.some.inj hk; (try simp at hk); omega) (by show _ ≤ ((Wi.alloc _).alloc _).heap.size; simp; omega)) | (refine step_append_any _ rfl (.tmp 33) (.tmp 38) _ rfl w.heap.size 34 i0 _ 1 4 Tryz.underlying68 hi0 hz0 hz1 hz2 rfl (by omega) (.slice A54 p c54) p _ rfl hown54 (Wi.heap.size + 2) (some ⟨_, 0, none⟩) 1 1 _ rfl (Reads.of_blk hE54 (by omega) rfl) (by simp [Value.oneCell']) (by unfold maxLen; omega) (by omega) (by have := hb.size; have := hb54.size;  omega) ?_; intro v57 W57 hown57 hg57 hat57; obtain ⟨A57, c57, rfl⟩ := own_slice hown57; have hb57 : Below Wi.heap.size Wi W57 := hb54.grown hg57 hb54.size hn54) | (refine step_append_any _ rfl (.tmp 33) (.tmp 38) _ rfl w.heap.size 34 i0 _ 1 4 Tryz.underlying68 hi0 hz0 hz1 hz2 rfl (by omega) (.slice A54 p c54) p _ rfl (hown54.alloc _) (W54.heap.size + 1) (some ⟨_, 0, none⟩) 1 1 _ rfl (Reads.of_blk (Blk.new W54 _ _) (by omega) rfl) (by simp [Value.oneCell']) (by unfold maxLen; omega) (by omega) (by have := hb.size; have := hb54.size; show _ ≤ (W54.alloc _).heap.size; simp; omega) ?_; intro v57 W57 hown57 hg57 hat57; obtain ⟨A57, c57, rfl⟩ := own_slice hown57; have hb57 : Below Wi.heap.size Wi W57 := (hb54.alloc hb54.size _).grown hg57 (by have := hb54.size; simp; omega) hn54) | (refine step_append_any _ rfl (.tmp 39) (.tmp 42) _ rfl w.heap.size 34 i0 _ 1 4 Tryz.underlying68 hi0 hz0 hz1 hz2 rfl (by omega) (.slice A57 (p + 1) c57) (p + 1) _ rfl hown57 Wi.heap.size _ (ks.length - p) (c3 - p) _ rfl (hcut.below hb57) (fun u hu => u32_one u (List.mem_of_mem_drop hu)) (by unfold maxLen; omega) (by omega) (by have := hb.size; have := hb57.size; omega) ?_; intro v61 W61 hown61 hg61 hat61; obtain ⟨A61, c61, rfl⟩ := own_slice hown61))
            all_goals go_wp2_with fail
            all_goals go_roundg (n - (i + 1))
            all_goals first | (have := Hiq.out; omega) | exact rising_rel Hiq.out hlt Hx.out Hk.out hp Hp.out Hgt.out hown61 hb hb57 hg61 hown57
        · have Hgt := Lib.hid (show ∀ j (hj : j < ks.length), p ≤ j → x ≤ ks[j] from fun j hj h => by omega)
          have hpl' : ¬ ((p : Nat) : Int) < (ks.length : Int) := by omega
          go_wp2_with fail
          go_quiet (fail)
          go_wp2_with fail
          have hownW := own_below hown (belowN (Below.refl Wl.heap.size Wl) nq)
          have hbW := hb.trans ((belowN (Below.refl Wl.heap.size Wl) nq).mono hb.size)
          clear hown hb pl
          generalize Wl.drewN nq = Wi at *
          have hb := hbW
          have hown := hownW
          have hbs := hb.size
          obtain ⟨ad', hA', pl⟩ := reads_u32 (Hr.out.below hb) hlt Hx.out
          injection hA' with hA'
          subst hA'
          have hclB : ∀ W', Below Wi.heap.size Wi W' → W'.cell? (ad.add i) = some (.int .u32 x) := fun W' h => (h.cell (show (ad.add i).block < Wi.heap.size by rw [block_of_add]; omega)).trans pl
          have hplD := hclB Wi.drew (Below.refl _ Wi).drew
          have hplA := fun z => hclB ((Wi.alloc z).drew) ((Below.refl _ Wi).alloc (Nat.le_refl _) z).drew
          have hrd := Reads.of_own hown
          have hlc : ks.length ≤ c3 := by
            rcases hown.2 with ⟨h, h0⟩ | ⟨g, cap, cur, h, _, _, h1, _⟩
            · injection h with _ _ h3; omega
            · injection h with _ _ h3; omega
          have hcut : Reads Wi Wi.heap.size 1 (if c3 = p then A3 else Option.map (fun x => x.add p) A3) (ks.length - p) (List.drop p (u32c ks)) := by
            have h := hrd.cut hp hlc
            rwa [Nat.mul_one] at h
          have hpc : p ≤ c3 := by omega
          have hpcz : (p : Int) ≤ c3 := by omega
          have hp0 : 0 ≤ (p : Int) := by omega
          have hpl2 : (p : Int) ≤ ks.length := by omega
          have Hown := Lib.hid hown
          clear hown hownW hbW
          go_region_law (first  | (refine step_append_any _ rfl (.tmp 29) (.tmp 32) _ rfl w.heap.size 34 i0 _ 1 4 Tryz.underlying68 hi0 hz0 hz1 hz2 rfl (by omega) (.slice (some ⟨Wi.heap.size, 0, none⟩) 0 0) 0 [] rfl ((World.ownsRow_made (base := w.heap.size) (e := 34) (size := 1) Wi #[] 0 hb.size (by unfold maxLen; omega) rfl).alloc _).drew Wi.heap.size _ p c3 _ rfl (((hrd.front32 hp).alloc (Nat.le_refl _) _).alloc (by simp) _).drew (fun u hu => u32_one u (List.mem_of_mem_take hu)) (by unfold maxLen; omega) (by omega) (by have := hb.size; show _ ≤ ((Wi.alloc _).alloc _).heap.size; simp; omega) ?_; intro v54 W54 hown54 hg54 hat54; obtain ⟨A54, c54, rfl⟩ := own_slice hown54; rw [Nat.zero_add] at hown54 hat54; have hb54 : Below Wi.heap.size Wi W54 := ins_belowA hg54; have hcl54 := hclB W54 hb54; have hE54 := ins_elemA hg54; have hn54 : ∀ k, (Value.slice A54 p c54).ownBlock = some k → Wi.heap.size ≤ k := ins_new hat54 (fun k hk => by have hk := Option.some.inj hk; (try simp at hk); omega) (by show _ ≤ ((Wi.alloc _).alloc _).heap.size; simp; omega)) | (refine step_append_any _ rfl (.tmp 29) (.tmp 32) _ rfl w.heap.size 34 i0 _ 1 4 Tryz.underlying68 hi0 hz0 hz1 hz2 rfl (by omega) (.slice (some ⟨Wi.heap.size, 0, none⟩) 0 0) 0 [] rfl (World.ownsRow_made (base := w.heap.size) (e := 34) (size := 1) Wi #[] 0 hb.size (by unfold maxLen; omega) rfl).drew Wi.heap.size _ p c3 _ rfl ((hrd.front32 hp).alloc (Nat.le_refl _) _).drew (fun u hu => u32_one u (List.mem_of_mem_take hu)) (by unfold maxLen; omega) (by omega) (by have := hb.size; show _ ≤ (Wi.alloc _).heap.size; simp; try omega) ?_; intro v54 W54 hown54 hg54 hat54; obtain ⟨A54, c54, rfl⟩ := own_slice hown54; rw [Nat.zero_add] at hown54 hat54; have hb54 : Below Wi.heap.size Wi W54 := ins_belowB hg54; have hcl54 := hclB W54 hb54;  have hn54 : ∀ k, (Value.slice A54 p c54).ownBlock = some k → Wi.heap.size ≤ k := ins_new hat54 (fun k hk => Nat.le_of_eq (Option.some.inj hk)) (by show _ ≤ (Wi.alloc _).heap.size; simp)) | (refine step_append_any _ rfl (.tmp 29) (.tmp 32) _ rfl w.heap.size 34 i0 _ 1 4 Tryz.underlying68 hi0 hz0 hz1 hz2 rfl (by omega) (.slice (some ⟨Wi.heap.size + 1, 0, none⟩) 0 0) 0 [] rfl (ins_madeC hb.size) Wi.heap.size _ p c3 _ rfl (((hrd.front32 hp).alloc (Nat.le_refl _) _).alloc (by simp) _).drew (fun u hu => u32_one u (List.mem_of_mem_take hu)) (by unfold maxLen; omega) (by omega) (by have := hb.size; show _ ≤ ((Wi.alloc _).alloc _).heap.size; simp; omega) ?_; intro v54 W54 hown54 hg54 hat54; obtain ⟨A54, c54, rfl⟩ := own_slice hown54; rw [Nat.zero_add] at hown54 hat54; have hb54 : Below Wi.heap.size Wi W54 := ins_belowC hg54; have hcl54 := hclB W54 hb54; have hE54 := ins_elemC hg54; have hn54 : ∀ k, (Value.slice A54 p c54).ownBlock = some k → Wi.heap.size ≤ k := ins_new hat54 (fun k hk => by have hk := Option.some.inj hk; (try simp at hk); omega) (by show _ ≤ ((Wi.alloc _).alloc _).heap.size; simp; omega)) | (refine step_append_any _ rfl (.tmp 33) (.tmp 38) _ rfl w.heap.size 34 i0 _ 1 4 Tryz.underlying68 hi0 hz0 hz1 hz2 rfl (by omega) (.slice A54 p c54) p _ rfl hown54 (Wi.heap.size + 2) (some ⟨_, 0, none⟩) 1 1 _ rfl (Reads.of_blk hE54 (by omega) rfl) (by simp [Value.oneCell']) (by unfold maxLen; omega) (by omega) (by have := hb.size; have := hb54.size;  omega) ?_; intro v57 W57 hown57 hg57 hat57; obtain ⟨A57, c57, rfl⟩ := own_slice hown57; have hb57 : Below Wi.heap.size Wi W57 := hb54.grown hg57 hb54.size hn54) | (refine step_append_any _ rfl (.tmp 33) (.tmp 38) _ rfl w.heap.size 34 i0 _ 1 4 Tryz.underlying68 hi0 hz0 hz1 hz2 rfl (by omega) (.slice A54 p c54) p _ rfl (hown54.alloc _) (W54.heap.size + 1) (some ⟨_, 0, none⟩) 1 1 _ rfl (Reads.of_blk (Blk.new W54 _ _) (by omega) rfl) (by simp [Value.oneCell']) (by unfold maxLen; omega) (by omega) (by have := hb.size; have := hb54.size; show _ ≤ (W54.alloc _).heap.size; simp; omega) ?_; intro v57 W57 hown57 hg57 hat57; obtain ⟨A57, c57, rfl⟩ := own_slice hown57; have hb57 : Below Wi.heap.size Wi W57 := (hb54.alloc hb54.size _).grown hg57 (by have := hb54.size; simp; omega) hn54) | (refine step_append_any _ rfl (.tmp 39) (.tmp 42) _ rfl w.heap.size 34 i0 _ 1 4 Tryz.underlying68 hi0 hz0 hz1 hz2 rfl (by omega) (.slice A57 (p + 1) c57) (p + 1) _ rfl hown57 Wi.heap.size _ (ks.length - p) (c3 - p) _ rfl (hcut.below hb57) (fun u hu => u32_one u (List.mem_of_mem_drop hu)) (by unfold maxLen; omega) (by omega) (by have := hb.size; have := hb57.size; omega) ?_; intro v61 W61 hown61 hg61 hat61; obtain ⟨A61, c61, rfl⟩ := own_slice hown61))
          all_goals go_wp2_with fail
          all_goals go_roundg (n - (i + 1))
          all_goals first | (have := Hiq.out; omega) | exact rising_rel Hiq.out hlt Hx.out Hk.out hp Hp.out Hgt.out hown61 hb hb57 hg61 hown57
    · have hxs : ks = sortI l := by
        have h1 := Hk.out
        rw [List.take_of_length_le (by have := Hl.out; omega)] at h1
        exact sortI_of h1.2 h1.1
      have hkn : ks.length = n := by rw [hxs, sortI_length]; exact Hl.out
      rw [hkn] at hown
      have hlt' : ¬ ((i : Nat) : Int) < (n : Int) := by omega
      have Hxs := Lib.hid hxs
      clear hxs hkn
      go_wp2_with fail
      go_ret
      exact ⟨_, rfl, by rw [← Hxs.out]; exact hown, hb⟩
end Go.Proofs.YtlldgfejcjnpkaaGreat
