/- The reference's log: Records, Count, Same; slices.Equal of codes. -/
import Derived.Test.YtfoldlbnkfnenaaGreatBase14
namespace Go.Proofs.YtfoldlbnkfnenaaGreat
open Go.RowKit
set_option maxHeartbeats 600000
set_option maxRecDepth 100000

theorem refRecords_any (b off : Nat) (t : TypeId) (cs : Array Value) (L : List Rec) (F : Nat → Prop) (w : World) (h : LogIs w b t cs off L F) (hs : L.length < 1073741823) :
    Calls Tryz.prog 69 #[.pointer (some ⟨b, off, none⟩)] w fun e w' => ∃ v, e = .returned v ∧ w'.ownsRow w.heap.size 145 4 v (kept L).length (recsCells (kept L)) ∧ Below w.heap.size w w' := by
  obtain ⟨A, c, D⟩ := h
  have hC : w.cell? ⟨b, off, none⟩ = some (.slice A L.length c) := (D.blk.cell off).trans D.at_
  have hA1 : ∀ (W : World) (o : Obj), b < W.heap.size → (W.alloc o).cell? ⟨b, off, none⟩ = W.cell? ⟨b, off, none⟩ := fun W o hlt => cellA hlt o off
  have hblt := D.blk.lt
  have hr := Reads.of_own D.row
  have hlc : L.length ≤ c := by
    rcases D.row.2 with ⟨h, h0⟩ | ⟨g, cap, cur, h, _, _, h1, _⟩
    · omega
    · injection h with _ _ h3; omega
  obtain ⟨i0, hi0, hz0, hz1, hz2⟩ := info_parts rec_info
  obtain ⟨m, hm⟩ : ∃ m, m = L.length := ⟨_, rfl⟩
  have hk : recsCells (kept L) = (recsCells L).drop ((m - 16) * 4) := by rw [hm]; exact recsCells_drop L _
  have hkl : (kept L).length = m - (m - 16) := by rw [hm]; unfold kept; rw [List.length_drop]
  rw [← hm] at hC hs hr hlc
  rw [hk, hkl]
  have hone : ∀ u ∈ (recsCells L).drop ((m - 16) * 4), u.oneCell' = true := fun u hu => recsCells_one L u (List.mem_of_mem_drop hu)
  clear hm hk hkl D
  rcases Nat.lt_or_ge 16 m with h16 | h16
  · obtain ⟨q, rfl⟩ : ∃ q, m = q + 16 := ⟨m - 16, by omega⟩
    have hcut := hr.cut (k := q) (cap := c) (by omega) hlc
    rw [if_neg (by omega)] at hcut
    rw [show q + 16 - 16 = q by omega] at hone
    rw [show q + 16 - q = 16 by omega] at hcut
    rw [show q + 16 - 16 = q by omega, show q + 16 - q = 16 by omega]
    go_enter Tryz.func69, Tryz.ntmps69
    go_wp2_with (at_builtin; refine wpList_append_any _ rfl (.tmp 12) (.tmp 18) _ rfl w.heap.size 145 i0 _ 4 24 Tryz.underlying68 hi0 hz0 hz1 hz2 rfl (by omega) (.slice (some ⟨w.heap.size, 0, none⟩) 0 0) 0 [] rfl (World.ownsRow_made w #[] 0 (Nat.le_refl _) (by unfold maxLen; omega) rfl) w.heap.size (A.map (·.add (q * 4))) 16 (c - q) _ rfl (hcut.alloc (Nat.le_refl _) _) hone (by unfold maxLen; omega) (by omega) (by simp) ?_; intro v1 w1 hown1 hg1 hat1)
    go_ret
    exact ⟨_, rfl, by simpa using hown1, ((Below.refl _ _).alloc (Nat.le_refl _) _).grown hg1 (by simp) (fun k hk => by simp [Value.ownBlock] at hk; omega)⟩
  · have e0 : m - 16 = 0 := by omega
    rw [e0, Nat.zero_mul, List.drop_zero] at hone
    rw [e0, Nat.zero_mul, List.drop_zero, Nat.sub_zero]
    clear e0
    have hd : decide ((m : Int) - 16 < 0) = decide (m < 16) := by simp; omega
    rcases Nat.lt_or_ge m 16 with h17 | h17
    · go_enter Tryz.func69, Tryz.ntmps69
      go_wp2_with (at_builtin; refine wpList_append_any _ rfl (.tmp 12) (.tmp 18) _ rfl w.heap.size 145 i0 _ 4 24 Tryz.underlying68 hi0 hz0 hz1 hz2 rfl (by omega) (.slice (some ⟨w.heap.size, 0, none⟩) 0 0) 0 [] rfl (World.ownsRow_made w #[] 0 (Nat.le_refl _) (by unfold maxLen; omega) rfl) w.heap.size A m c _ rfl (hr.alloc (Nat.le_refl _) _) hone (by unfold maxLen; omega) (by omega) (by simp) ?_; intro v1 w1 hown1 hg1 hat1)
      go_ret
      exact ⟨_, rfl, by simpa using hown1, ((Below.refl _ _).alloc (Nat.le_refl _) _).grown hg1 (by simp) (fun k hk => by simp [Value.ownBlock] at hk; omega)⟩
    · obtain rfl : m = 16 := by omega
      go_enter Tryz.func69, Tryz.ntmps69
      go_wp2_with (at_builtin; refine wpList_append_any _ rfl (.tmp 12) (.tmp 18) _ rfl w.heap.size 145 i0 _ 4 24 Tryz.underlying68 hi0 hz0 hz1 hz2 rfl (by omega) (.slice (some ⟨w.heap.size, 0, none⟩) 0 0) 0 [] rfl (World.ownsRow_made w #[] 0 (Nat.le_refl _) (by unfold maxLen; omega) rfl) w.heap.size A 16 c _ rfl (hr.alloc (Nat.le_refl _) _) hone (by unfold maxLen; omega) (by omega) (by simp) ?_; intro v1 w1 hown1 hg1 hat1)
      go_ret
      exact ⟨_, rfl, by simpa using hown1, ((Below.refl _ _).alloc (Nat.le_refl _) _).grown hg1 (by simp) (fun k hk => by simp [Value.ownBlock] at hk; omega)⟩

theorem cnt_take_succ (code : Int) (L : List Rec) (k : Nat) (r : Rec) (h : L[k]? = some r) : cnt code (L.take (k + 1)) = cnt code (L.take k) + if r.code = code then 1 else 0 := by
  obtain ⟨hk, he⟩ := List.getElem?_eq_some_iff.1 h
  rw [List.take_succ_eq_append_getElem hk, he, cnt_snoc]
/-- The cells of a list of records that a slice reads as. -/
theorem reads_rec {w : World} {B : Nat} {A : Option Addr} {n : Nat} {l : List Rec} (h : Reads w B 4 A n (recsCells l)) {k : Nat} (hk : k < n) {r : Rec} (hr : l[k]? = some r) : ∃ ad, A = some ad ∧
    w.cell? (ad.add (k * 4)) = some (.int .i64 r.at_) ∧ w.cell? ⟨(ad.add (k * 4)).block, (ad.add (k * 4)).off + 1, none⟩ = some (.int .i64 r.code) ∧ w.cell? ⟨(ad.add (k * 4)).block, (ad.add (k * 4)).off + 2, none⟩ = some (.int .u32 r.s) ∧ w.cell? ⟨(ad.add (k * 4)).block, (ad.add (k * 4)).off + 3, none⟩ = some (.int .u32 r.k) := by
  obtain ⟨ad, rfl, _, hc⟩ := h.2 (by omega)
  have hcells := recsCells_get l k r hr
  have e : ∀ j, j ≠ 0 → ad.add (k * 4 + j) = ⟨(ad.add (k * 4)).block, (ad.add (k * 4)).off + j, none⟩ := by
    intro j hj
    rw [← add_of_add]
    generalize ad.add (k * 4) = y
    unfold Addr.add
    rw [if_neg hj]
  refine ⟨ad, rfl, hc (k * 4) _ ((hcells 0 (by omega)).trans rfl), ?_, ?_, ?_⟩
  · rw [← e 1 (by omega)]; exact hc (k * 4 + 1) _ ((hcells 1 (by omega)).trans rfl)
  · rw [← e 2 (by omega)]; exact hc (k * 4 + 2) _ ((hcells 2 (by omega)).trans rfl)
  · rw [← e 3 (by omega)]; exact hc (k * 4 + 3) _ ((hcells 3 (by omega)).trans rfl)

theorem same_any (A1 A2 : Option Addr) (n c1 c2 B : Nat) (l : List Rec) (w : World) (h1 : Reads w B 4 A1 n (recsCells l)) (h2 : Reads w B 4 A2 n (recsCells l)) (hn : n < 1073741823) :
    Calls Tryz.prog 68 #[.slice A1 n c1, .slice A2 n c2] w fun e w' => e = .returned (.bool true) ∧ ∃ k, w' = w.drewN k := by
  have hl : l.length = n := by have := h1.1; rw [recsCells_length] at this; omega
  have Hl := Lib.hid hl
  clear hl
  go_enter Tryz.func68, Tryz.ntmps68
  go_wp2_with fail
  go_loopw [5] (fun v5 wr => ∃ k q : Nat, k ≤ n ∧ v5 = .int .i64 k ∧ wr = w.drewN q) (fun v5 _ => n - (intOf v5).toNat)
  case atStart => exact ⟨0, 0, Nat.zero_le _, rfl, rfl⟩
  case round =>
    obtain ⟨k, q, hk, rfl, rfl⟩ := hrel
    by_cases hlt : k < n
    · obtain ⟨r, hr⟩ : ∃ r, l[k]? = some r := ⟨_, List.getElem?_eq_getElem (by rw [Hl.out]; exact hlt)⟩
      obtain ⟨a1, rfl, p0, p1, p2, p3⟩ := reads_rec h1 hlt hr
      obtain ⟨a2, rfl, r0, r1, r2, r3⟩ := reads_rec h2 hlt hr
      clear h1 h2 hr
      go_wp2_with fail
      go_quiet (fail)
      go_wp2_with fail
      exact ⟨⟨k + 1, _, by omega, by go_num, rfl⟩, by simp [intOf]; omega⟩
    · go_wp2_with fail
      go_ret
      exact ⟨rfl, q, rfl⟩
end Go.Proofs.YtfoldlbnkfnenaaGreat
