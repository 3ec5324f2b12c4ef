/- The walk of parapethand.Apart. -/
import Derived.Test.YtfoldlbnkfnenaaGreatCApart
namespace Go.Proofs.YtfoldlbnkfnenaaGreat
open Go.RowKit
set_option maxHeartbeats 10000000
set_option maxRecDepth 100000

theorem stage_zero (n : Nat → Nat) (X : Nat → List Value) (j : Nat) : stage n X 0 0 j = X j := by
  unfold stage
  rw [if_neg (by omega)]
  split
  · subst_vars; simp [marks]
  · rfl
theorem stage_next (n : Nat → Nat) (X : Nat → List Value) (i j : Nat) (hX : (X i).length = n i) : stage n X i (n i) j = stage n X (i + 1) 0 j := by
  unfold stage
  by_cases h1 : j < i
  · rw [if_pos h1, if_pos (by omega)]
  · rw [if_neg h1]
    by_cases h2 : j = i
    · subst h2
      rw [if_pos rfl, if_pos (by omega), List.drop_eq_nil_of_le (by omega), List.append_nil]
    · rw [if_neg h2, if_neg (by omega)]
      by_cases h3 : j = i + 1
      · subst h3; rw [if_pos rfl]; simp [marks]
      · rw [if_neg h3]
theorem list_info : (Tryz.prog.info? 22).map (fun i => (i.zero, i.size, i.bytes)) = some (some (.slice none 0 0), 1, 24) := by kernel_rfl
theorem apart_any (B L N cL : Nat) (V : Nat → Value) (n : Nat → Nat) (X : Nat → List Value) (w : World) (hL : Lists B w L N V n X) (hLL : L < w.heap.size) (hN : 1 ≤ N ∧ N ≤ 1000) (hn : ∀ i, i < N → n i ≤ 100000) (hcL : N ≤ cL) (hB : B ≤ w.heap.size) :
    Calls Tryz.prog 25 #[.slice (some ⟨L, 0, none⟩) N cL] w fun e w' => e = .returned (.bool true) ∧ Keep (fun x => ∃ i, i < N ∧ (V i).ownBlock = some x) w w' := by
  have hXl : ∀ i, i < N → (X i).length = n i := fun i hi => by have := (hL.row i hi).1; simpa using this
  go_enter Tryz.func25, Tryz.ntmps25
  go_wp2_with fail
  go_loopg [3] N (fun q v3 wr => ∃ i : Nat, v3 = .int .i64 i ∧ i + q = N ∧ Lists B wr L N V n (stage n X i 0) ∧ Keep (fun x => ∃ i, i < N ∧ (V i).ownBlock = some x) w wr)
  case atStart => exact ⟨0, rfl, by omega, hL.same (fun i hi => (stage_zero n X i).symm), Keep.refl _ _⟩
  case round =>
    obtain ⟨i, rfl, hq, hLi, hK⟩ := hrel
    by_cases hi : i < N
    · have Hq := Lib.hid hq
      clear hq
      go_wp2_with fail
      go_loopg [4] (n i) (fun q v4 wr => ∃ k : Nat, v4 = .int .i64 k ∧ k + q = n i ∧ Lists B wr L N V n (stage n X i k) ∧ Keep (fun x => ∃ i, i < N ∧ (V i).ownBlock = some x) w wr)
      case atStart => exact ⟨0, rfl, by omega, hLi, hK⟩
      case round =>
        obtain ⟨k, rfl, hq, hLk, hKk⟩ := hrel
        have hni := hn i hi
        have hXi := hXl i hi
        obtain ⟨A, c, hV⟩ := own_slice (hLk.row i hi)
        have hcell := hLk.cell i hi
        by_cases hk : k < n i
        · have hrow := hLk.row i hi
          rw [hV] at hrow
          obtain ⟨g, rfl⟩ := own_some hrow (by omega)
          have hfz := (own_at (k := k) hrow).1
          obtain ⟨u0, hu0⟩ := (own_at (k := k) hrow).2 (by omega)
          have hst := hLk.store hi (k := k) hV (.int .u8 ((17 * (i : Int) + 5 * (k : Int) + 3) % 256))
          have hSg : ∃ i, i < N ∧ (V i).ownBlock = some g := ⟨i, hi, by rw [hV]; rfl⟩
          have hKx := (hKk.setCell (p := ⟨g, k, none⟩) (fun _ => hSg) (.int .u8 ((17 * (i : Int) + 5 * (k : Int) + 3) % 256))).drew
          have hnext := (hst.same (Y := stage n X i (k + 1)) (fun j hj => by
            by_cases e : j = i
            · subst e
              rw [if_pos rfl]
              exact stage_set (by omega)
            · rw [if_neg e]
              unfold stage
              by_cases h1 : j < i
              · simp [h1]
              · simp [h1, e])).drew
          have hcs := hnext.cell i hi
          rw [hV] at hcell hcs
          have Hqk := Lib.hid hq
          have Hkb := Lib.hid (show k + 1 ≤ n i from hk)
          have hk5 : k < 100000 := by omega
          obtain ⟨ni, Hni⟩ : ∃ x, Hid (x = n i) := ⟨_, Lib.hid rfl⟩
          rw [← Hni.out] at hcell hcs hk
          have hfzd : wr.drew.frozen? ⟨g, k, none⟩ = false := hfz
          clear hq hst hXi hrow
          go_upto_region 7 with fail
          have hcd : wr.drew.cell? ⟨L, i, none⟩ = some (.slice (some ⟨g, 0, none⟩) ni c) := hcell
          have hud : wr.drew.cell? ⟨g, k, none⟩ = some u0 := hu0
          go_region_held3 (fun w' => w'.cell? ⟨L, i, none⟩ = some (.slice (some ⟨g, 0, none⟩) ni c)) (with_reducible (first | exact hcd | exact hcs)) (first
            | (go_at_call 58; refine (mark_any i k _ (by omega) (by omega)).mono ?_; rintro e w' ⟨rfl, rfl⟩))
          go_wp2_with fail
          go_roundg (n i - (k + 1))
          case measure => have := Hqk.out; have := Hkb.out; omega
          case rel => have := Hqk.out; have := Hkb.out; exact ⟨k + 1, by go_num, by omega, hnext, hKx⟩
        · obtain rfl : k = n i := by omega
          rw [hV] at hcell
          have hnl : ¬ ((n i : Nat) : Int) < ((n i : Nat) : Int) := by omega
          go_wp2_with fail
          go_roundg (N - (i + 1))
          case measure => have := Hq.out; omega
          case rel => have := Hq.out; exact ⟨i + 1, by go_num, by omega, hLk.same (fun j _ => stage_next n X i j hXi), hKk⟩
    · obtain rfl : i = N := by omega
      have hAll := hLi.same (Y := fun j => marks j (n j)) (fun j hj => by unfold stage; rw [if_pos hj])
      obtain ⟨i0, hi0, hz0, hz1, hz2⟩ := info_parts list_info
      obtain ⟨W0, rfl⟩ : ∃ W : World, W = wr := ⟨_, rfl⟩
      have hKs := hK.size
      have hLW : L < W0.heap.size := by omega
      have hrd : Reads W0 W0.heap.size 1 (some ⟨L, 0, none⟩) i ((List.range i).map V) := by
        refine ⟨by simp, fun _ => ⟨_, rfl, hLW, fun j u hu => ?_⟩⟩
        have hj : j < i := by have := (List.getElem?_eq_some_iff.1 hu).1; simpa using this
        have hv : V j = u := by simpa [hj] using hu
        have he : (⟨L, 0, none⟩ : Addr).add j = ⟨L, j, none⟩ := by unfold Addr.add; split <;> simp_all
        rw [he, hAll.cell j hj, hv]
      have hone : ∀ u ∈ (List.range i).map V, u.oneCell' = true := by
        intro u hu
        obtain ⟨j, hj, rfl⟩ := List.mem_map.1 hu
        obtain ⟨A, c, hV⟩ := own_slice (hL.row j (List.mem_range.1 hj))
        rw [hV]
        rfl
      have hnn : ¬ ((i : Nat) : Int) < ((i : Nat) : Int) := by omega
      clear hq hi hLi
      go_wp2_with (at_builtin; refine wpList_append_any _ rfl (.tmp 35) (.tmp 36) _ rfl W0.heap.size 22 i0 _ 1 24 Tryz.underlying40 hi0 hz0 hz1 hz2 rfl (by omega) (.slice (some ⟨W0.heap.size, 0, none⟩) 0 0) 0 [] rfl (World.ownsRow_made W0 #[] 0 (Nat.le_refl _) (by unfold maxLen; omega) rfl) W0.heap.size (some ⟨L, 0, none⟩) i cL ((List.range i).map V) rfl (hrd.alloc (Nat.le_refl _) _) hone (by unfold maxLen; omega) (by omega) (by simp) ?_; intro v5 w5 hown5 hg5 hat5; rw [Nat.zero_add, List.nil_append] at hown5; obtain ⟨A5, c5, rfl⟩ := own_slice hown5)
      obtain ⟨GR, rfl⟩ := own_some hown5 (by omega)
      have hb5 := ((Below.refl W0.heap.size W0).alloc (Nat.le_refl _) (.cells #[] 22)).grown hg5 (by simp) (fun k hk => by simp [Value.ownBlock] at hk; omega)
      have hGR := hown5.lt GR rfl
      have hlt0 : ∀ j, j < i → ∀ x, (V j).ownBlock = some x → x < W0.heap.size := fun j hj x hx => ((hAll.row j hj).lt x hx).2
      have hgc5 : ∀ j, j < i → w5.cell? ⟨GR, j, none⟩ = some (V j) := fun j hj => by
        rw [hown5.cellAt j (by omega)]
        simp [hj]
      have hgf5 : ∀ j, w5.frozen? ⟨GR, j, none⟩ = false := fun j => hown5.frozenAt j
      have hGr : Grown B w w5 L GR i V V n n := {
        ls := hAll.below hLW hb5
        row := fun j hj => own_below (hAll.row j hj) hb5
        nm := fun _ _ => Nat.le_refl _
        lg := ⟨by have := hb5.size; omega, hGR.2, by omega⟩
        vfar := fun j hj x hx => by have := hlt0 j hj x hx; omega
        gfar := fun j hj x hx => ⟨by have := hlt0 j hj x hx; omega, hAll.far j hj x hx⟩
        dis := fun j k hj hk hne x hx => ⟨hAll.dis j k hj hk hne x hx, hAll.dis j k hj hk hne x hx⟩
        gs := fun j hj x hx => .inl ⟨j, hj, hx⟩
        keep := hK.trans (Keep.of_below hb5) }
      have hG0 : w.heap.size ≤ GR := by omega
      clear hAll hK hrd hone hown5 hg5 hat5 hb5 hlt0 hXl hLW
      go_wp2_with fail
      go_loopg [6] 40 (fun q v6 wr => ∃ (q6 : Nat) (G : Nat → Value), v6 = .int .i64 q6 ∧ q6 + q = 40 ∧ Grown B w wr L GR i V G n (fun j => n j + q6) ∧ (∀ j, j < i → wr.cell? ⟨GR, j, none⟩ = some (G j)) ∧ ∀ j, wr.frozen? ⟨GR, j, none⟩ = false)
      case atStart => exact ⟨0, V, rfl, by omega, hGr, hgc5, hgf5⟩
      case round =>
        clear hGr hgc5 hgf5
        obtain ⟨q6, G, rfl, hq, hGr, hgc, hgf⟩ := hrel
        by_cases h40 : q6 < 40
        · have Hq := Lib.hid hq
          clear hq
          have h40' : (q6 : Int) < 40 := by omega
          go_wp2_with fail
          go_loopg [7] i (fun q v7 wr => ∃ (k : Nat) (G : Nat → Value), v7 = .int .i64 k ∧ k + q = i ∧ Grown B w wr L GR i V G n (fun j => if j < k then n j + q6 + 1 else n j + q6) ∧ (∀ j, j < i → wr.cell? ⟨GR, j, none⟩ = some (G j)) ∧ ∀ j, wr.frozen? ⟨GR, j, none⟩ = false)
          case atStart => exact ⟨0, G, rfl, by omega, by simpa using hGr, hgc, hgf⟩
          case round =>
            clear hGr hgc hgf
            obtain ⟨k, G1, rfl, hq, hGr, hgc, hgf⟩ := hrel
            by_cases hk : k < i
            · have Hqk := Lib.hid hq
              clear hq
              have hrow := hGr.row k hk
              simp only [if_neg (show ¬ k < k from Nat.lt_irrefl k)] at hrow
              obtain ⟨A, c, hV⟩ := own_slice hrow
              have hcell := hgc k hk
              have hnk := hn k hk
              rw [hV] at hrow hcell
              obtain ⟨ni, Hni⟩ : ∃ x, Hid (x = n k + q6) := ⟨_, Lib.hid rfl⟩
              rw [← Hni.out] at hrow hcell hV
              have hnb : ni < 200000 := by have := Hni.out; omega
              have hbA := ((Below.refl wr.heap.size wr).alloc (Nat.le_refl _) (.cells #[.int .u8 ((17 * (k : Int) + 5 * (ni : Int) + 3) % 256)] 5)).drew
              have hGA := hGr.below hbA
              have hAp : ∀ v' w', w'.ownsRow B 5 1 v' (ni + 1) (marks k ni ++ [.int .u8 ((17 * (k : Int) + 5 * (ni : Int) + 3) % 256)]) →
                  ((∃ g cap, Value.slice A ni c = .slice (some ⟨g, 0, none⟩) ni cap ∧ v' = .slice (some ⟨g, 0, none⟩) (ni + 1) cap ∧ (wr.alloc (.cells #[.int .u8 ((17 * (k : Int) + 5 * (ni : Int) + 3) % 256)] 5)).drew.grownBy w' (some g)) ∨ ((v'.ownBlock = some (wr.alloc (.cells #[.int .u8 ((17 * (k : Int) + 5 * (ni : Int) + 3) % 256)] 5)).drew.heap.size ∨ v'.ownBlock = none) ∧ Below (wr.alloc (.cells #[.int .u8 ((17 * (k : Int) + 5 * (ni : Int) + 3) % 256)] 5)).drew.heap.size (wr.alloc (.cells #[.int .u8 ((17 * (k : Int) + 5 * (ni : Int) + 3) % 256)] 5)).drew w')) →
                  Grown B w w' L GR i V (fun j => if j = k then v' else G1 j) n (fun j => if j < k + 1 then n j + q6 + 1 else n j + q6) ∧ ∀ j, w'.cell? ⟨GR, j, none⟩ = wr.cell? ⟨GR, j, none⟩ ∧ w'.frozen? ⟨GR, j, none⟩ = wr.frozen? ⟨GR, j, none⟩ := by
                intro v' w' h1 h2
                have hm : (if k < k then n k + q6 + 1 else n k + q6) = ni := by rw [if_neg (Nat.lt_irrefl k)]; exact Hni.out.symm
                rw [← hV] at h2
                have h3 := hGA.append (w' := w') hk (v' := v') (by simp only [hm]; exact h1) (by simp only [hm]; exact h2)
                refine ⟨?_, fun j => ⟨(h3.2 j).1.trans (hbA.cell (p := ⟨GR, j, none⟩) hGr.lg.2.1), (h3.2 j).2.trans (World.frozen?_of_block (hbA.block GR hGr.lg.2.1))⟩⟩
                have hfm : (fun j => if j = k then (fun j => if j < k then n j + q6 + 1 else n j + q6) k + 1 else (fun j => if j < k then n j + q6 + 1 else n j + q6) j) = (fun j => if j < k + 1 then n j + q6 + 1 else n j + q6) := by
                  funext j
                  by_cases e : j = k
                  · subst e; simp
                  · simp only [if_neg e]
                    by_cases e2 : j < k
                    · rw [if_pos e2, if_pos (by omega)]
                    · rw [if_neg e2, if_neg (by omega)]
                rw [hfm] at h3
                exact h3.1
              have hrowA := own_below hrow hbA
              have hcA := (hbA.cell (p := ⟨GR, k, none⟩) hGr.lg.2.1).trans hcell
              have hzA := hbA.size
              have hBw : B ≤ (wr.alloc (.cells #[.int .u8 ((17 * (k : Int) + 5 * (ni : Int) + 3) % 256)] 5)).drew.heap.size := by have := hGr.keep.size; omega
              obtain ⟨i1, hi1, hy0, hy1, hy2⟩ := info_parts byte_info
              have hgl := hGr.lg
              have hcw := hcell
              have hcd : wr.drew.cell? ⟨GR, k, none⟩ = some (.slice A ni c) := hcell
              clear hGr hGA
              go_upto_region 15 with fail
              go_region_law (first
                | (refine step_append_keep _ rfl (.tmp 53) (.tmp 61) _ rfl B 5 i1 _ 1 1 Tryz.underlying22 hi1 hy0 hy1 hy2 rfl (by omega) (.slice A ni c) ni (marks k ni) rfl hrowA ⟨wr.heap.size, 0, none⟩ 1 1 [.int .u8 ((17 * (k : Int) + 5 * (ni : Int) + 3) % 256)] rfl (by simp) (fun j u h => cell_one_new wr _ _ j u h) (by simp [Value.oneCell']) (by unfold maxLen; omega) (by omega) hBw ?_; intro v4 w4 hown4 hc4; obtain ⟨A4, c4, rfl⟩ := own_slice hown4; have hA4 := hAp _ w4 hown4 hc4; have hc4' := (hA4.2 k).1.trans hcw; have hf4 : ∀ j, w4.frozen? ⟨GR, j, none⟩ = false := fun j => (hA4.2 j).2.trans (hgf j))
                | (go_simp; go_at_call 58; refine (mark_any k ni _ (by omega) (by omega)).mono ?_; rintro e w' ⟨rfl, rfl⟩))
              all_goals
                (have hcn : ∀ j, j < i → (w4.setCell ⟨GR, k, none⟩ (.slice A4 (ni + 1) c4)).cell? ⟨GR, j, none⟩ = some (if j = k then .slice A4 (ni + 1) c4 else G1 j) := by
                  intro j hj
                  by_cases e : j = k
                  · subst e
                    rw [if_pos rfl]
                    exact World.cell?_setCell_same w4 _ _ hc4'
                  · rw [if_neg e, World.cell?_setCell_other w4 _ _ _ (by intro h; injection h with _ h2; exact e h2.symm), (hA4.2 j).1]
                    exact hgc j hj
                 have hfn : ∀ j, (w4.setCell ⟨GR, k, none⟩ (.slice A4 (ni + 1) c4)).frozen? ⟨GR, j, none⟩ = false := fun j => by rw [World.frozen?_setCell]; exact hf4 j
                 have hGn := hA4.1.storeG hG0 k (.slice A4 (ni + 1) c4)
                 clear hA4 hAp hcA hcell hcw hgc hgf
                 go_wp2_with fail
                 go_roundg (i - (k + 1))
                 case measure => have := Hqk.out; omega
                 case rel => have := Hqk.out; exact ⟨k + 1, _, by go_num, by omega, hGn, hcn, hfn⟩)
            · obtain rfl : k = i := by omega
              have hGn : Grown B w wr L GR k V G1 n (fun j => n j + (q6 + 1)) := { hGr with
                row := fun j hj => by have h := hGr.row j hj; simp only [if_pos hj] at h; exact h
                nm := fun j _ => Nat.le_add_right _ _ }
              have hkk : ¬ ((k : Nat) : Int) < ((k : Nat) : Int) := by omega
              clear hq hGr
              go_wp2_with fail
              go_roundg (40 - (q6 + 1))
              case measure => have := Hq.out; omega
              case rel => have := Hq.out; exact ⟨q6 + 1, G1, by go_num, by omega, hGn, hgc, hgf⟩
        · obtain rfl : q6 = 40 := by omega
          have h40' : ¬ ((40 : Nat) : Int) < 40 := by omega
          obtain ⟨W6, rfl⟩ : ∃ W : World, W = wr := ⟨_, rfl⟩
          clear hq h40
          go_wp2_with fail
          go_loopg [8] i (fun q v8 wr => ∃ (k d : Nat), v8 = .int .i64 k ∧ k + q = i ∧ wr = W6.drewN d)
          case atStart => exact ⟨0, 0, rfl, by omega, rfl⟩
          case round =>
            obtain ⟨k, d, rfl, hq, rfl⟩ := hrel
            by_cases hk : k < i
            · have Hq := Lib.hid hq
              clear hq
              have hrg := hGr.row k hk
              obtain ⟨Ag, cg, hG⟩ := own_slice hrg
              have hrv := hGr.ls.row k hk
              obtain ⟨Av, cv, hV⟩ := own_slice hrv
              have hcg := hgc k hk
              have hcv := hGr.ls.cell k hk
              rw [hG] at hrg hcg
              rw [hV] at hrv hcv
              have hnk := hn k hk
              obtain ⟨ni, Hni⟩ : ∃ x, Hid (x = n k) := ⟨_, Lib.hid rfl⟩
              rw [← Hni.out] at hrg hcg hrv hcv hnk
              have hni : ni ≤ 100000 := hnk
              clear hnk hG hV
              go_wp2_with fail
              go_loopg [9] (ni + 40) (fun q v9 wr => ∃ (t d : Nat), v9 = .int .i64 t ∧ t + q = ni + 40 ∧ wr = W6.drewN d)
              case atStart => exact ⟨0, d, rfl, by omega, rfl⟩
              case round =>
                obtain ⟨t, d2, rfl, hqt, rfl⟩ := hrel
                by_cases ht : t < ni + 40
                · have Hqt := Lib.hid hqt
                  clear hqt
                  obtain ⟨g, rfl⟩ := own_some hrg (by omega)
                  have hct : W6.cell? ⟨g, t, none⟩ = some (.int .u8 ((17 * (k : Int) + 5 * (t : Int) + 3) % 256)) := by
                    rw [hrg.cellAt t (by omega), marks_get ht]
                    rfl
                  have hcg1 : (W6.drewN d2).cell? ⟨GR, k, none⟩ = some (.slice (some ⟨g, 0, none⟩) (ni + 40) cg) := hcg
                  have hcg2 : (W6.drewN d2).drew.cell? ⟨GR, k, none⟩ = some (.slice (some ⟨g, 0, none⟩) (ni + 40) cg) := hcg
                  have hct2 : (W6.drewN d2).drew.cell? ⟨g, t, none⟩ = some (.int .u8 ((17 * (k : Int) + 5 * (t : Int) + 3) % 256)) := hct
                  have hlt : (t : Int) < (ni : Int) + 40 := by omega
                  have hlt2 : (t : Int) < ((ni + 40 : Nat) : Int) := by omega
                  go_upto_region 22 with fail
                  go_region_held3 (fun w' => w'.cell? ⟨GR, k, none⟩ = some (.slice (some ⟨g, 0, none⟩) (ni + 40) cg) ∧ w'.cell? ⟨g, t, none⟩ = some (.int .u8 ((17 * (k : Int) + 5 * (t : Int) + 3) % 256))) (exact ⟨hcg2, hct2⟩) (first
                    | (go_at_call 58; refine (mark_any k t _ (by omega) (by omega)).mono ?_; rintro e w' ⟨rfl, rfl⟩))
                  go_wp2_with fail
                  go_roundg (ni + 40 - (t + 1))
                  case measure => have := Hqt.out; omega
                  case rel => have := Hqt.out; exact ⟨t + 1, d2 + 1, by go_num, by omega, rfl⟩
                · obtain rfl : t = ni + 40 := by omega
                  have hcg1 : (W6.drewN d2).cell? ⟨GR, k, none⟩ = some (.slice Ag (ni + 40) cg) := hcg
                  have hge : ¬ ((ni + 40 : Nat) : Int) < (ni : Int) + 40 := by omega
                  have hge2 : ¬ ((ni + 40 : Nat) : Int) < ((ni + 40 : Nat) : Int) := by omega
                  clear hqt ht
                  go_wp2_with fail
                  go_loopg [10] ni (fun q v10 wr => ∃ (t d : Nat), v10 = .int .i64 t ∧ t + q = ni ∧ wr = W6.drewN d)
                  case atStart => exact ⟨0, d2, rfl, by omega, rfl⟩
                  case round =>
                    clear hcg1 hge hge2
                    obtain ⟨t, d3, rfl, hqt, rfl⟩ := hrel
                    by_cases ht : t < ni
                    · have Hqt := Lib.hid hqt
                      clear hqt
                      obtain ⟨g, rfl⟩ := own_some hrv (by omega)
                      have hct : W6.cell? ⟨g, t, none⟩ = some (.int .u8 ((17 * (k : Int) + 5 * (t : Int) + 3) % 256)) := by
                        rw [hrv.cellAt t (by omega), marks_get (by have := Hni.out; omega)]
                        rfl
                      have hcv1 : (W6.drewN d3).cell? ⟨L, k, none⟩ = some (.slice (some ⟨g, 0, none⟩) ni cv) := hcv
                      have hcv2 : (W6.drewN d3).drew.cell? ⟨L, k, none⟩ = some (.slice (some ⟨g, 0, none⟩) ni cv) := hcv
                      have hct2 : (W6.drewN d3).drew.cell? ⟨g, t, none⟩ = some (.int .u8 ((17 * (k : Int) + 5 * (t : Int) + 3) % 256)) := hct
                      have hlt : (t : Int) < (ni : Int) := by omega
                      go_upto_region 27 with fail
                      go_region_held3 (fun w' => w'.cell? ⟨L, k, none⟩ = some (.slice (some ⟨g, 0, none⟩) ni cv) ∧ w'.cell? ⟨g, t, none⟩ = some (.int .u8 ((17 * (k : Int) + 5 * (t : Int) + 3) % 256))) (exact ⟨hcv2, hct2⟩) (first
                        | (go_at_call 58; refine (mark_any k t _ (by omega) (by omega)).mono ?_; rintro e w' ⟨rfl, rfl⟩))
                      go_wp2_with fail
                      go_roundg (ni - (t + 1))
                      case measure => have := Hqt.out; omega
                      case rel => have := Hqt.out; exact ⟨t + 1, d3 + 1, by go_num, by omega, rfl⟩
                    · obtain rfl : t = ni := by omega
                      have hcv1 : (W6.drewN d3).cell? ⟨L, k, none⟩ = some (.slice Av t cv) := hcv
                      have hge : ¬ ((t : Nat) : Int) < ((t : Nat) : Int) := by omega
                      clear hqt ht
                      go_wp2_with fail
                      go_roundg (i - (k + 1))
                      case measure => have := Hq.out; omega
                      case rel => have := Hq.out; exact ⟨k + 1, d3, by go_num, by omega, rfl⟩
            · obtain rfl : k = i := by omega
              have hge : ¬ ((k : Nat) : Int) < ((k : Nat) : Int) := by omega
              have hKf := hGr.keep
              clear hq hk hGr hgc hgf
              go_wp2_with fail
              go_ret
              exact ⟨rfl, hKf.drewN d⟩
end Go.Proofs.YtfoldlbnkfnenaaGreat
