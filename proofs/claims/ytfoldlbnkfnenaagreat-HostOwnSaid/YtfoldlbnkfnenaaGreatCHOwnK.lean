/- What the walk of HostOwn shares: both hosts at a frame and at a value; lists that are held. -/
import Derived.Test.YtfoldlbnkfnenaaGreatCTwoB
import Derived.Test.YtfoldlbnkfnenaaGreatCApartW
import Derived.Test.YtfoldlbnkfnenaaGreatCHOwnM
namespace Go.Proofs.YtfoldlbnkfnenaaGreat
open Go.RowKit
set_option maxHeartbeats 10000000
set_option maxRecDepth 100000

/-- The program's host has been called, the reference's not yet. -/
structure Mid (B : Nat) (w : World) (a b : Nat) (m1 m2 : HostM) (T T' : Nat → Prop) : Prop where
  pair : ∃ F1 F2, Pair B w a b m1 m2 F1 F2 ∧ (∀ x, F1 x → T' x) ∧ ∀ x, F2 x → T x
  lt : ∀ x, T' x → x < w.heap.size
  sub : ∀ x, T x → T' x
section
variable {B a b : Nat} {w w' : World} {m m1 m2 : HostM} {T T' : Nat → Prop}
theorem Mid.below (h : Mid B w a b m1 m2 T T') (hb : Below w.heap.size w w') : Mid B w' a b m1 m2 T T' := by
  obtain ⟨F1, F2, hP, hT, hT2⟩ := h.pair
  exact ⟨⟨F1, F2, hP.below hb, hT, hT2⟩, fun x hx => by have := h.lt x hx; have := hb.size; omega, h.sub⟩
theorem mid_of (h : Two B w a b m T) {F1 F2 : Nat → Prop} (hP : Pair B w a b m m F1 F2) (hT : ∀ x, F1 x ∨ F2 x → T x) (t : HostTo B w a m1 F1 w') : Mid B w' a b m1 m T (grow T w w') ∧ Keep T w w' ∧ Below B w w' := by
  refine ⟨⟨⟨_, _, hP.onHost t, ?_, fun x hx => hT x (.inr hx)⟩, grow_lt h.lt t.keep.size, fun x hx => .inl hx⟩, t.keep.mono (fun x _ hx => hT x (.inl hx)), HostTo.belowB hP.host t⟩
  rintro x (hx | hx)
  · exact .inl (hT x (.inl hx))
  · exact .inr hx
theorem of_mid (h : Mid B w a b m1 m2 T T') {F1 F2 : Nat → Prop} (hP : Pair B w a b m1 m2 F1 F2) (hT : ∀ x, F1 x → T' x) (hT2 : ∀ x, F2 x → T x) (hg : m1.Good) (hl : m1.Live) (t : RHTo B w b m1 F2 w') : Two B w' a b m1 (grow T' w w') ∧ Keep T w w' ∧ Below B w w' := by
  refine ⟨⟨⟨_, _, hP.onRef t, ?_⟩, hg, hl, grow_lt h.lt t.keep.size⟩, t.keep.mono (fun x _ hx => hT2 x hx), RHTo.belowB hP.ref hP.host.Ble t⟩
  rintro x (hx | hx)
  · exact .inl (hT x hx)
  · rcases hx with hx | hx
    · exact .inl (h.sub x (hT2 x hx))
    · exact .inr hx
theorem two_hreceive (h : Two B w a b m T) (hlen : m.log.length < 1073741600) (n : Nat) (l : List UInt8) (A : Option Addr) (c Br : Nat) (hr : Reads w Br 1 A n (u8c l)) (hB : Br ≤ w.heap.size) (hc : n ≤ c) (hn : n ≤ 140737488351232) :
    Calls Tryz.prog 22 #[.pointer (some ⟨a, 0, none⟩), .slice A n c] w fun e w' => e = .returned (.int .i64 (m.receive l).2) ∧ Mid B w' a b (m.receive l).1 m T (grow T w w') ∧ Keep T w w' ∧ Below B w w' := by
  obtain ⟨F1, F2, hP, hT⟩ := h.pair
  exact (hostReceive_any n l hP.host h.good (by omega) hr hB hc hn).mono fun e w' ⟨he, t⟩ => ⟨he, mid_of h hP hT t⟩
theorem mid_receive {l : List UInt8} (h : Mid B w a b (m.receive l).1 m T T') (hg : m.Good) (hl : m.Live) (hlen : m.log.length < 1073741600) (n : Nat) (A : Option Addr) (c Br : Nat) (hr : Reads w Br 1 A n (u8c l)) (hB : Br ≤ w.heap.size) (hc : n ≤ c) :
    Calls Tryz.prog 23 #[.pointer (some ⟨b, 0, none⟩), .slice A n c] w fun e w' => e = .returned (.int .i64 (m.receive l).2) ∧ Two B w' a b (m.receive l).1 (grow T' w w') ∧ Keep T w w' ∧ Below B w w' := by
  obtain ⟨F1, F2, hP, hT, hT2⟩ := h.pair
  exact (rhReceive_any n l hP.ref hg (by omega) hr hB hc).mono fun e w' ⟨he, t⟩ => ⟨he, of_mid h hP hT hT2 (hg.receive l) (came_live hl hg.inv (receive_came m l)) t⟩
theorem two_hwrite (h : Two B w a b m T) (n : Nat) (l : List UInt8) (hold : Bool) (A : Option Addr) (c Br : Nat) (hr : Reads w Br 1 A n (u8c l)) (hB : Br ≤ w.heap.size) (ho : m.p.out ≤ 8) :
    Calls Tryz.prog 16 #[.pointer (some ⟨a, 0, none⟩), .slice A n c, .bool hold] w fun e w' => e = .returned (.int .i64 (m.write l hold).2) ∧ Mid B w' a b (m.write l hold).1 m T (grow T w w') ∧ Keep T w w' ∧ Below B w w' := by
  obtain ⟨F1, F2, hP, hT⟩ := h.pair
  exact (hostWrite_any B a m F1 A n c Br l hold w hP.host hr hB (fun e => reads_nn hr e) ho).mono fun e w' ⟨he, t⟩ => ⟨he, mid_of h hP hT t⟩
theorem mid_write {l : List UInt8} {hold : Bool} (h : Mid B w a b (m.write l hold).1 m T T') (hg : m.Good) (hl : m.Live) (n : Nat) (A : Option Addr) (c Br : Nat) (hr : Reads w Br 1 A n (u8c l)) (hB : Br ≤ w.heap.size) (ho : m.p.out ≤ 8) :
    Calls Tryz.prog 17 #[.pointer (some ⟨b, 0, none⟩), .slice A n c, .bool hold] w fun e w' => e = .returned (.int .i64 (m.write l hold).2) ∧ Two B w' a b (m.write l hold).1 (grow T' w w') ∧ Keep T w w' ∧ Below B w w' := by
  obtain ⟨F1, F2, hP, hT, hT2⟩ := h.pair
  have t := write_same m l hold
  exact (rhWrite_any B b m F2 A n c Br l hold w hP.ref hr hB ho).mono fun e w' ⟨he, tt⟩ => ⟨he, of_mid h hP hT hT2 (hg.write l hold) (fun hs => by rw [t.2.1]; exact hl (by rw [← t.2.2.2.2.1]; exact hs)) tt⟩
end
/-- Lists of bytes that are held: each a row of its own. -/
structure Held (B : Nat) (w : World) (VS : List Value) : Prop where
  row : ∀ v ∈ VS, ∃ n xs, n ≤ 100000 ∧ w.ownsRow B 5 1 v n xs
  dis : VS.Pairwise fun u v => ∀ x, u.ownBlock = some x → v.ownBlock ≠ some x
section
variable {B : Nat} {w w' : World} {VS : List Value}
theorem Held.keep {S : Nat → Prop} (h : Held B w VS) (hk : Keep S w w') (hS : ∀ v ∈ VS, ∀ x, v.ownBlock = some x → ¬ S x) : Held B w' VS :=
  ⟨fun v hv => by obtain ⟨n, xs, h1, h2⟩ := h.row v hv; exact ⟨n, xs, h1, ownsRow_keep h2 hk (hS v hv)⟩, h.dis⟩
theorem Held.below (h : Held B w VS) (hb : Below w.heap.size w w') : Held B w' VS := h.keep (S := fun _ => False) (Keep.of_below hb) (fun _ _ _ _ h => h)
theorem Held.lt (h : Held B w VS) : ∀ v ∈ VS, ∀ x, v.ownBlock = some x → x < w.heap.size := fun v hv x hx => by
  obtain ⟨n, xs, _, h2⟩ := h.row v hv
  exact (h2.lt x hx).2
theorem Held.add (h : Held B w VS) {v : Value} {n base : Nat} {xs : List Value} (hn : n ≤ 100000) (hr : w.ownsRow base 5 1 v n xs) (hb : B ≤ base) (hd : ∀ u ∈ VS, ∀ x, u.ownBlock = some x → v.ownBlock ≠ some x) : Held B w (VS ++ [v]) := by
  refine ⟨fun u hu => ?_, ?_⟩
  · rcases List.mem_append.1 hu with h1 | h1
    · exact h.row u h1
    · rw [List.mem_singleton.1 h1]
      exact ⟨n, xs, hn, own_base hr hb⟩
  · rw [List.pairwise_append]
    exact ⟨h.dis, List.pairwise_singleton _ _, fun u hu u' hu' x hx => by rw [List.mem_singleton.1 hu']; exact hd u hu x hx⟩
/-- As Apart wants them. -/
theorem Held.lists (h : Held B w VS) {L N c base : Nat} (hr : w.ownsRow base 22 1 (.slice (some ⟨L, 0, none⟩) N c) N VS) : ∃ (V : Nat → Value) (n : Nat → Nat) (X : Nat → List Value), Lists B w L N V n X ∧ (∀ i, i < N → n i ≤ 100000) ∧ ∀ i, i < N → V i ∈ VS := by
  have hl : VS.length = N := by have := hr.1; omega
  have hm : ∀ i, i < N → VS.getD i (.slice none 0 0) ∈ VS := fun i hi => by
    rw [List.getD_eq_getElem?_getD, List.getElem?_eq_getElem (by omega)]
    exact List.getElem_mem _
  have hex : ∀ i, ∃ p : Nat × List Value, i < N → p.1 ≤ 100000 ∧ w.ownsRow B 5 1 (VS.getD i (.slice none 0 0)) p.1 p.2 := fun i => by
    by_cases hi : i < N
    · obtain ⟨n, xs, h1, h2⟩ := h.row _ (hm i hi)
      exact ⟨(n, xs), fun _ => ⟨h1, h2⟩⟩
    · exact ⟨(0, []), fun h => absurd h hi⟩
  obtain ⟨f, hf⟩ := Classical.axiomOfChoice hex
  obtain ⟨cs, hbk⟩ := own_obj hr rfl
  refine ⟨fun i => VS.getD i (.slice none 0 0), fun i => (f i).1, fun i => (f i).2, ⟨fun i hi => ?_, fun i hi => (hf i hi).2, fun i hi x hx e => ?_, fun i j hi hj hne x hx hx2 => ?_⟩, fun i hi => (hf i hi).1, hm⟩
  · rw [hr.cellAt i (by omega), List.getD_eq_getElem?_getD, List.getElem?_eq_getElem (by omega)]
    rfl
  · subst e
    exact own_ne (hf i hi).2 hbk (by decide) hx
  · have hp := List.pairwise_iff_getElem.1 h.dis
    rw [List.getD_eq_getElem?_getD, List.getElem?_eq_getElem (by omega)] at hx hx2
    simp only [Option.getD_some] at hx hx2
    rcases Nat.lt_or_ge i j with h1 | h1
    · exact hp i j (by omega) (by omega) h1 x hx hx2
    · exact hp j i (by omega) (by omega) (by omega) x hx2 hx
end
end Go.Proofs.YtfoldlbnkfnenaaGreat
