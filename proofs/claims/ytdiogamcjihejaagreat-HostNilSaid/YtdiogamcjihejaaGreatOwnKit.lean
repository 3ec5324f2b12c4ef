/- Rows of the caller's own: a cell set, a block grown, another's work. No program here. -/
import Derived.Test.YtdiogamcjihejaaGreatMem
namespace Go.Proofs.YtdiogamcjihejaaGreat
open Go.RowKit
set_option maxHeartbeats 4000000
set_option maxRecDepth 100000

theorem own_set {w : World} {base : Nat} {e : TypeId} {size n c g : Nat} {xs : List Value} (h : w.ownsRow base e size (.slice (some ⟨g, 0, none⟩) n c) n xs) (k : Nat) (u : Value) :
    ∃ xs', (w.setCell ⟨g, k, none⟩ u).ownsRow base e size (.slice (some ⟨g, 0, none⟩) n c) n xs' := by
  obtain ⟨hl, h⟩ := h
  rcases h with ⟨h, _⟩ | ⟨g', cap, cur, h, hb, hg, hn, hm, hs, hx⟩
  · cases h
  · injection h with h1 h2 h3
    injection h1 with h1
    injection h1 with h1
    subst h1 h3
    refine ⟨_, ?_, .inr ⟨g, c, cur.setIfInBounds k u, rfl, hb, Blk.set_ hg k u, hn, hm, by simpa using hs, rfl⟩⟩
    rw [List.length_take, Array.length_toList, Array.size_setIfInBounds, hs]
    exact Nat.min_eq_left (Nat.mul_le_mul_right _ hn)
theorem own_at {w : World} {base : Nat} {e : TypeId} {size n c g : Nat} {xs : List Value} {k : Nat} (h : w.ownsRow base e size (.slice (some ⟨g, 0, none⟩) n c) n xs) :
    w.frozen? ⟨g, k, none⟩ = false ∧ (k < n * size → ∃ u, w.cell? ⟨g, k, none⟩ = some u) := by
  obtain ⟨hl, h⟩ := h
  rcases h with ⟨h, _⟩ | ⟨g', cap, cur, h, hb, hg, hn, hm, hs, hx⟩
  · cases h
  · injection h with h1 h2 h3
    injection h1 with h1
    injection h1 with h1
    subst h1 h3
    refine ⟨Blk.frozen hg k, fun hk => ?_⟩
    have hk' : k < cur.size := by rw [hs]; exact Nat.lt_of_lt_of_le hk (Nat.mul_le_mul_right _ hn)
    exact ⟨cur[k], (Blk.cell hg k).trans (Array.getElem?_eq_getElem hk')⟩
theorem own_some {w : World} {base : Nat} {e : TypeId} {size n c : Nat} {A : Option Addr} {xs : List Value} (h : w.ownsRow base e size (.slice A n c) n xs) (hn : 0 < n) : ∃ g, A = some ⟨g, 0, none⟩ := by
  rcases h.2 with ⟨_, h0⟩ | ⟨g, cap, cur, hv, _⟩
  · omega
  · injection hv with h1
    exact ⟨g, h1⟩
theorem own_far {w : World} {base : Nat} {e : TypeId} {size n g : Nat} {v : Value} {xs : List Value} (h : w.ownsRow base e size v n xs) (hg : v.ownBlock ≠ some g) (k : Nat) (u : Value) : (w.setCell ⟨g, k, none⟩ u).ownsRow base e size v n xs :=
  ownsRow_keep (S := fun x => x = g) h (Keep.setCell (S := fun x => x = g) (p := ⟨g, k, none⟩) (Keep.refl _ _) (fun _ => rfl) u) (fun _ hx h => hg (h ▸ hx))
theorem own_grown {w w' : World} {base : Nat} {e : TypeId} {size n : Nat} {v v0 : Value} {xs : List Value} (h : w.ownsRow base e size v n xs) (hg : w.grownBy w' v0.ownBlock) (hne : ∀ x, v0.ownBlock = some x → v.ownBlock ≠ some x) : w'.ownsRow base e size v n xs :=
  ownsRow_keep (S := fun x => v0.ownBlock = some x) h (Keep.grown (Keep.refl _ _) hg (fun _ hk _ => hk)) (fun x hx h => hne x h hx)
theorem own_none {w : World} {base : Nat} {e : TypeId} {size n c : Nat} {A : Option Addr} {xs : List Value} (h : w.ownsRow base e size (.slice A n c) n xs) : A = none → c = 0 := by
  intro hA
  subst hA
  rcases h.2 with ⟨h, _⟩ | ⟨g, cap, cur, hv, _⟩
  · injection h
  · injection hv with h1
    cases h1
theorem own_below {w w' : World} {base : Nat} {e : TypeId} {size n : Nat} {v : Value} {xs : List Value} (h : w.ownsRow base e size v n xs) (hb : Below w.heap.size w w') : w'.ownsRow base e size v n xs :=
  ownsRow_keep (S := fun _ => False) h (Keep.of_below hb) (fun _ _ h => h)
/-- A slice literal is a row of the caller's own. -/
theorem own_full (w : World) (cs : Array Value) (e : TypeId) (base : Nat) (hb : base ≤ w.heap.size) (hm : cs.size ≤ maxLen) : (w.alloc (.cells cs e)).ownsRow base e 1 (.slice (some ⟨w.heap.size, 0, none⟩) cs.size cs.size) cs.size cs.toList :=
  ⟨by simp, .inr ⟨w.heap.size, cs.size, cs, rfl, hb, heap_alloc_new w _, Nat.le_refl _, hm, by simp, by rw [List.take_of_length_le (by simp)]⟩⟩
end Go.Proofs.YtdiogamcjihejaaGreat
