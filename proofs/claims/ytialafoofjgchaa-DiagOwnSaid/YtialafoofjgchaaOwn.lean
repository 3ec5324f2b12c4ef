/- The walk of DiagOwn: what the program hands out is new memory; writing into it and growing it turns nothing else. -/
import Derived.Test.YtialafoofjgchaaDiagL
import Derived.Test.YtialafoofjgchaaCodes
import Derived.Test.YtialafoofjgchaaLawKit12
import Derived.Test.YtialafoofjgchaaNoteB
namespace Go.Proofs.Ytialafoofjgchaa
open Go.RowKit
set_option maxHeartbeats 4000000
set_option maxRecDepth 100000

theorem own_set {w : World} {base : Nat} {e : TypeId} {size n c g : Nat} {xs : List Value} (h : w.ownsRow base e size (.slice (some ⟨g, 0, none⟩) n c) n xs) (k : Nat) (u : Value) :
    ∃ xs', (w.setCell ⟨g, k, none⟩ u).ownsRow base e size (.slice (some ⟨g, 0, none⟩) n c) n xs' := by
  obtain ⟨hl, h⟩ := h
  rcases h with ⟨h, _⟩ | ⟨g', cap, cur, h, hb, hg, hn, hm, hs, hx⟩
  · cases h
  · injection h with h1 h2 h3
    injection h1 with h1
    injection h1 with h1
    subst h1 h3
    refine ⟨_, ?_, .inr ⟨g, c, cur.setIfInBounds k u, rfl, hb, Blk.set_ hg k u, hn, hm, by simpa using hs, rfl⟩⟩
    rw [List.length_take, Array.length_toList, Array.size_setIfInBounds, hs]
    exact Nat.min_eq_left (Nat.mul_le_mul_right _ hn)
theorem own_at {w : World} {base : Nat} {e : TypeId} {size n c g : Nat} {xs : List Value} {k : Nat} (h : w.ownsRow base e size (.slice (some ⟨g, 0, none⟩) n c) n xs) :
    w.frozen? ⟨g, k, none⟩ = false ∧ (k < n * size → ∃ u, w.cell? ⟨g, k, none⟩ = some u) := by
  obtain ⟨hl, h⟩ := h
  rcases h with ⟨h, _⟩ | ⟨g', cap, cur, h, hb, hg, hn, hm, hs, hx⟩
  · cases h
  · injection h with h1 h2 h3
    injection h1 with h1
    injection h1 with h1
    subst h1 h3
    refine ⟨Blk.frozen hg k, fun hk => ?_⟩
    have hk' : k < cur.size := by rw [hs]; exact Nat.lt_of_lt_of_le hk (Nat.mul_le_mul_right _ hn)
    exact ⟨cur[k], (Blk.cell hg k).trans (Array.getElem?_eq_getElem hk')⟩
theorem own_some {w : World} {base : Nat} {e : TypeId} {size n c : Nat} {A : Option Addr} {xs : List Value} (h : w.ownsRow base e size (.slice A n c) n xs) (hn : 0 < n) : ∃ g, A = some ⟨g, 0, none⟩ := by
  rcases h.2 with ⟨_, h0⟩ | ⟨g, cap, cur, hv, _⟩
  · omega
  · injection hv with h1
    exact ⟨g, h1⟩
theorem own_far {w : World} {base : Nat} {e : TypeId} {size n g : Nat} {v : Value} {xs : List Value} (h : w.ownsRow base e size v n xs) (hg : v.ownBlock ≠ some g) (k : Nat) (u : Value) : (w.setCell ⟨g, k, none⟩ u).ownsRow base e size v n xs :=
  ownsRow_keep (S := fun x => x = g) h (Keep.setCell (S := fun x => x = g) (p := ⟨g, k, none⟩) (Keep.refl _ _) (fun _ => rfl) u) (fun _ hx h => hg (h ▸ hx))
theorem own_grown {w w' : World} {base : Nat} {e : TypeId} {size n : Nat} {v v0 : Value} {xs : List Value} (h : w.ownsRow base e size v n xs) (hg : w.grownBy w' v0.ownBlock) (hne : ∀ x, v0.ownBlock = some x → v.ownBlock ≠ some x) : w'.ownsRow base e size v n xs :=
  ownsRow_keep (S := fun x => v0.ownBlock = some x) h (Keep.grown (Keep.refl _ _) hg (fun _ hk _ => hk)) (fun x hx h => hne x h hx)
theorem own_none {w : World} {base : Nat} {e : TypeId} {size n c : Nat} {A : Option Addr} {xs : List Value} (h : w.ownsRow base e size (.slice A n c) n xs) : A = none → c = 0 := by
  intro hA
  subst hA
  rcases h.2 with ⟨h, _⟩ | ⟨g, cap, cur, hv, _⟩
  · injection h
  · injection hv with h1
    cases h1
theorem own_below {w w' : World} {base : Nat} {e : TypeId} {size n : Nat} {v : Value} {xs : List Value} (h : w.ownsRow base e size v n xs) (hb : Below w.heap.size w w') : w'.ownsRow base e size v n xs :=
  ownsRow_keep (S := fun _ => False) h (Keep.of_below hb) (fun _ _ h => h)
theorem kept_le (L : List Rec) : (kept L).length ≤ L.length := by unfold kept; rw [List.length_drop]; omega
theorem diagOwn_any (A : Option Addr) (n c : Nat) (l : List Rec) (w : World) (hz : Reads w w.heap.size 4 A n (recsCells l)) (hn : n ≤ 17592186044416) :
    Calls Try.prog 5 #[.slice A n c] w fun e w' => e = .returned (.bool true) ∧ Below w.heap.size w w' := by
  have hl : l.length = n := by have := hz.1; rw [recsCells_length] at this; omega
  have Hl := Lib.hid hl
  clear hl
  go_enter Try.func5, Try.ntmps5
  go_wp2_with fail
  refine (awake12 _).mono ?_
  rintro e w1 ⟨rfl, hb1⟩
  go_wp2_with fail
  refine (diagNew_any _).mono ?_
  rintro e w2 ⟨a, rfl, hD, hb2⟩
  have hB2 : Below w.heap.size w w2 := hb1.trans (hb2.mono hb1.size)
  have hs1 := hb1.size
  go_wp2_with fail
  go_loopg [4] 40 (fun q v4 wr => ∃ (i : Nat) (L : List Rec) (F : Nat → Prop), v4 = .int .i64 i ∧ i + q = 40 ∧ i ≤ n ∧ L.length ≤ i ∧ DiagIs wr a L F ∧ (∀ b, F b → w.heap.size ≤ b ∧ b < wr.heap.size) ∧ Below w.heap.size w wr)
  case atStart => exact ⟨0, [], _, rfl, by omega, by omega, by simp, hD, fun b h => by omega, hB2⟩
  case round =>
    obtain ⟨i, L, F, rfl, hq, hin, hLi, hDr, hF, hB⟩ := hrel
    clear hD hB2 hb1 hb2 hs1
    obtain ⟨W0, rfl⟩ : ∃ W : World, W = wr := ⟨_, rfl⟩
    go_upto_region 5 with fail
    go_cut [24] from 17 to 43 (fun v24 wc => v24 = .bool (decide (i < n ∧ i < 40)) ∧ wc = W0)
    case first =>
      by_cases h1 : i < n
      · by_cases h2 : i < 40
        all_goals
          go_wp2_with fail
          go_meet
          exact ⟨by have e : ((i : Int) < 40) ↔ (i < 40) := by omega
                    simp [h1, h2, e], rfl⟩
      · go_wp2_with fail
        go_meet
        exact ⟨by simp [h1], rfl⟩
    case rest =>
    obtain ⟨rfl, hwc⟩ := hcut
    subst hwc
    by_cases hlt : i < n ∧ i < 40
    · have hd : decide (i < n ∧ i < 40) = true := by simpa using hlt
      obtain ⟨h1, h2⟩ := hlt
      rw [hd]
      obtain ⟨r, hr⟩ : ∃ r, l[i]? = some r := ⟨_, List.getElem?_eq_getElem (by rw [Hl.out]; exact h1)⟩
      obtain ⟨ad, rfl, p0, p1, p2, p3⟩ := reads_rec (hz.below hB) h1 hr
      clear hr
      have Hq := Lib.hid hq
      clear hq
      have h1' : (i : Int) < n := by omega
      have h0' : 0 ≤ (i : Int) := by omega
      go_wp2_with fail
      go_region_law (go_simp; go_at_call 9; refine (diagNote_both a L F _ _ _ _ (hDr.drewN 1) (by omega)).mono ?_; rintro e w3 ⟨nn, ee, L', F', rfl, hD3, hk3, hF3, hcase⟩)
      all_goals
        go_wp2_with fail
        go_roundg (40 - (i + 1))
        case measure => have := Hq.out; omega
        case rel =>
          have := Hq.out
          have hsz := hB.size
          have hsz3 := hk3.size
          refine ⟨i + 1, L', F', by go_num, by omega, by omega, ?_, hD3, fun b hb => ?_, (belowN hB 1).trans (hk3.below hB.size fun b h => (hF b h).1)⟩
          · rcases hcase with ⟨_, _, _, rfl⟩ | ⟨_, _, _, rfl⟩
            · omega
            · simp; omega
          · rcases hF3 b hb with h | h
            · have := hF b h
              exact ⟨this.1, Nat.lt_of_lt_of_le this.2 hsz3⟩
            · exact ⟨Nat.le_trans hsz h.1, h.2⟩
    · have hd : decide (i < n ∧ i < 40) = false := by simpa using hlt
      rw [hd]
      have hL40 : L.length ≤ 40 := by omega
      clear hlt hd hq hin hLi
      go_wp2_with fail
      refine (diagRecords_any a L F _ hDr).mono ?_
      rintro e w4 ⟨v4, rfl, hownA, hb4⟩
      go_wp2_with fail
      refine (diagRecords_any a L F _ (hDr.below hb4)).mono ?_
      rintro e w5 ⟨v5, rfl, hownB, hb5⟩
      have hb5' := hb4.trans (hb5.mono hb4.size)
      go_wp2_with fail
      refine (diagCodes_any a L F _ (hDr.below hb5') (by omega)).mono ?_
      rintro e w6 ⟨v6, ks, rfl, hks, hownX, hb6⟩
      have hb6' := hb5'.trans (hb6.mono hb5'.size)
      go_wp2_with fail
      refine (diagCodes_any a L F _ (hDr.below hb6') (by omega)).mono ?_
      rintro e w7 ⟨v7, js, rfl, hjs, hownY, hb7⟩
      obtain rfl : ks = js := codes_unique hks hjs
      have hb7' := hb6'.trans (hb7.mono hb6'.size)
      obtain ⟨A4, c4, rfl⟩ := own_slice hownA
      obtain ⟨A5, c5, rfl⟩ := own_slice hownB
      obtain ⟨A6, c6, rfl⟩ := own_slice hownX
      obtain ⟨A7, c7, rfl⟩ := own_slice hownY
      have hkl := codes_length hks
      have hml := kept_le L
      have hB7 := own_below (own_below hownB hb6) hb7
      go_wp2_with fail
      refine (cloneRec_any A5 _ c5 _ _ (own_none hB7) (Reads.of_own hB7) (recsCells_one _) (by omega)).mono ?_
      rintro e w8 ⟨v8, rfl, hownK, hb8⟩
      have hY8 := own_below hownY hb8
      go_wp2_with fail
      refine (cloneErrno_any A7 _ c7 _ _ (own_none hY8) (Reads.of_own hY8) (ints_one 0 _) (by omega)).mono ?_
      rintro e w9 ⟨v9, rfl, hownC, hb9⟩
      obtain ⟨A8, c8, rfl⟩ := own_slice hownK
      obtain ⟨A9, c9, rfl⟩ := own_slice hownC
      have iA := hownA.lt
      have iB := hownB.lt
      have iX := hownX.lt
      have iY := hownY.lt
      have iK := hownK.lt
      have iC := hownC.lt
      have s0 := hB.size
      have s4 := hb4.size
      have s5 := hb5.size
      have s6 := hb6.size
      have s7 := hb7.size
      have s8 := hb8.size
      have s9 := hb9.size
      obtain ⟨S, hS⟩ : ∃ S : Nat → Prop, S = fun x => (Value.slice A4 (kept L).length c4).ownBlock = some x ∨ (Value.slice A6 ks.length c6).ownBlock = some x := ⟨_, rfl⟩
      have hSA : ∀ x, (Value.slice A4 (kept L).length c4).ownBlock = some x → S x := fun x h => by rw [hS]; exact .inl h
      have hSX : ∀ x, (Value.slice A6 ks.length c6).ownBlock = some x → S x := fun x h => by rw [hS]; exact .inr h
      have hSw : ∀ x, S x → w.heap.size ≤ x := fun x h => by
        rw [hS] at h
        rcases h with h | h
        · have := iA x h; omega
        · have := iX x h; omega
      have hSF : ∀ x, F x → ¬ S x := fun x hf h => by
        rw [hS] at h
        have := hF x hf
        rcases h with h | h
        · have := iA x h; omega
        · have := iX x h; omega
      have hSB : ∀ x, (Value.slice A5 (kept L).length c5).ownBlock = some x → ¬ S x := fun x hf h => by
        rw [hS] at h
        have := iB x hf
        rcases h with h | h
        · have := iA x h; omega
        · have := iX x h; omega
      have hSY : ∀ x, (Value.slice A7 ks.length c7).ownBlock = some x → ¬ S x := fun x hf h => by
        rw [hS] at h
        have := iY x hf
        rcases h with h | h
        · have := iA x h; omega
        · have := iX x h; omega
      have hSK : ∀ x, (Value.slice A8 (kept L).length c8).ownBlock = some x → ¬ S x := fun x hf h => by
        rw [hS] at h
        have := iK x hf
        rcases h with h | h
        · have := iA x h; omega
        · have := iX x h; omega
      have hSC : ∀ x, (Value.slice A9 ks.length c9).ownBlock = some x → ¬ S x := fun x hf h => by
        rw [hS] at h
        have := iC x hf
        rcases h with h | h
        · have := iA x h; omega
        · have := iX x h; omega
      have hAX : ∀ x, (Value.slice A4 (kept L).length c4).ownBlock = some x → (Value.slice A6 ks.length c6).ownBlock ≠ some x := fun x hf h => by
        have := iA x hf
        have := iX x h
        omega
      have hD9 := ((hDr.below hb7').below hb8).below hb9
      have hA9 := own_below (own_below (own_below (own_below (own_below hownA hb5) hb6) hb7) hb8) hb9
      have hB9 := own_below (own_below hB7 hb8) hb9
      have hX9 := own_below (own_below (own_below hownX hb7) hb8) hb9
      have hY9 := own_below hY8 hb9
      have hK9 := own_below hownK hb9
      have hW9 : Below w.heap.size w w9 := (hB.trans (hb7'.mono hB.size)).trans ((hb8.trans (hb9.mono hb8.size)).mono (by omega))
      generalize hke : kept L = kl at *
      have hb5s := Nat.le_trans s0 (Nat.le_trans s4 s5)
      clear hDr hownA hownB hownX hownY hownK hB7 hY8 hb4 hb5 hb6 hb7 hb8 hb9 hb5' hb6' hb7' iA iB iX iY iK iC s4 s5 s6 s7 s8 s9 hS
      generalize hm : kl.length = m at *
      have hA9' := own_base hA9 s0
      have hX9' := own_base hX9 (show w.heap.size ≤ _ by have := hb5s; omega)
      go_wp2_with fail
      go_loopg [11, 58] m (fun q _v11 v58 wr => ∃ (k : Nat) (xs ys : List Value), v58 = .int .i64 k ∧ k + q = m ∧ wr.ownsRow w.heap.size 34 4 (.slice A4 m c4) m xs ∧ wr.ownsRow w.heap.size 26 1 (.slice A6 ks.length c6) ks.length ys ∧ Keep S w9 wr)
      case atStart => exact ⟨0, _, _, rfl, by omega, hA9', hX9', Keep.refl _ _⟩
      case round =>
        obtain ⟨k, xs, ys, rfl, hkq, hown, hown2, hk⟩ := hrel
        by_cases hlt : k < m
        · obtain ⟨g, rfl⟩ := own_some hown (by omega)
          have f0 := (own_at (k := k * 4) hown).1
          have f1 := (own_at (k := k * 4 + 1) hown).1
          have f2 := (own_at (k := k * 4 + 2) hown).1
          have f3 := (own_at (k := k * 4 + 3) hown).1
          obtain ⟨u0, e0⟩ := (own_at (k := k * 4) hown).2 (by omega)
          obtain ⟨u1, e1⟩ := (own_at (k := k * 4 + 1) hown).2 (by omega)
          obtain ⟨u2, e2⟩ := (own_at (k := k * 4 + 2) hown).2 (by omega)
          obtain ⟨u3, e3⟩ := (own_at (k := k * 4 + 3) hown).2 (by omega)
          have hsg := hSA g rfl
          have hfar := hAX g rfl
          have Hkq := Lib.hid hkq
          clear hkq
          go_wp2_with fail
          go_roundg (m - (k + 1))
          case measure => have := Hkq.out; omega
          case rel =>
            have := Hkq.out
            obtain ⟨xs1, h1⟩ := own_set hown (k * 4) (.int .i64 (-5))
            obtain ⟨xs2, h2⟩ := own_set h1 (k * 4 + 1) (.int .i64 0)
            obtain ⟨xs3, h3⟩ := own_set h2 (k * 4 + 2) (.int .u32 0)
            obtain ⟨xs4, h4⟩ := own_set h3 (k * 4 + 3) (.int .u32 0)
            exact ⟨k + 1, xs4, ys, by go_num, by omega, h4, own_far (own_far (own_far (own_far hown2 hfar _ _) hfar _ _) hfar _ _) hfar _ _,
              (((hk.setCell (fun _ => hsg) _).setCell (fun _ => hsg) _).setCell (fun _ => hsg) _).setCell (fun _ => hsg) _⟩
        · obtain ⟨Wa, rfl⟩ : ∃ W : World, W = wr := ⟨_, rfl⟩
          clear hkq hA9 hX9 hA9' hX9'
          go_wp2_with fail
          go_loopg [12, 68] ks.length (fun q _v12 v68 wr => ∃ (k : Nat) (xs ys : List Value), v68 = .int .i64 k ∧ k + q = ks.length ∧ wr.ownsRow w.heap.size 34 4 (.slice A4 m c4) m xs ∧ wr.ownsRow w.heap.size 26 1 (.slice A6 ks.length c6) ks.length ys ∧ Keep S w9 wr)
          case atStart => exact ⟨0, _, _, rfl, by omega, hown, hown2, hk⟩
          case round =>
            clear hown hown2 hk hlt
            obtain ⟨k, xs, ys, rfl, hkq, hown, hown2, hk⟩ := hrel
            by_cases hlt : k < ks.length
            · obtain ⟨g, rfl⟩ := own_some hown2 (by omega)
              have f0 := (own_at (k := k) hown2).1
              obtain ⟨u0, e0⟩ := (own_at (k := k) hown2).2 (by omega)
              have hsg := hSX g rfl
              have hfar : (Value.slice A4 m c4).ownBlock ≠ some g := fun h => hAX g h rfl
              have Hkq := Lib.hid hkq
              clear hkq
              go_wp2_with fail
              go_roundg (ks.length - (k + 1))
              case measure => have := Hkq.out; omega
              case rel =>
                have := Hkq.out
                obtain ⟨ys1, h1⟩ := own_set hown2 k (.int .i64 (-7))
                exact ⟨k + 1, xs, ys1, by go_num, by omega, own_far hown hfar _ _, h1, hk.setCell (fun _ => hsg) _⟩
            · obtain ⟨Wb, rfl⟩ : ∃ W : World, W = wr := ⟨_, rfl⟩
              clear hkq
              obtain ⟨i0, hi0, hz0, hz1, hz2⟩ := info_parts rec_info
              obtain ⟨i1, hi1, hy0, hy1, hy2⟩ := info_parts errno_info
              go_wp2_with fail
              go_loopg [5, 7, 13] 30 (fun q v5 v7 v13 wr => ∃ (k : Nat) (xs ys : List Value), v13 = .int .i64 k ∧ k + q = 30 ∧ wr.ownsRow w.heap.size 34 4 v5 (m + k) xs ∧ wr.ownsRow w.heap.size 26 1 v7 (ks.length + k) ys ∧ Keep S w9 wr ∧ (∀ x, v5.ownBlock = some x → x < w9.heap.size → S x) ∧ (∀ x, v7.ownBlock = some x → x < w9.heap.size → S x) ∧ (∀ x, v5.ownBlock = some x → v7.ownBlock ≠ some x))
              case atStart => exact ⟨0, _, _, rfl, by omega, hown, hown2, hk, fun x h _ => hSA x h, fun x h _ => hSX x h, hAX⟩
              case round =>
                clear hown hown2 hk hlt
                obtain ⟨k, xs, ys, rfl, hkq, hown, hown2, hk, hs1, hs2, hne⟩ := hrel
                obtain ⟨A10, c10, rfl⟩ := own_slice hown
                obtain ⟨A11, c11, rfl⟩ := own_slice hown2
                by_cases hlt : k < 30
                · have hsw := hk.size
                  have hsb := hW9.size
                  have l1 := hown.lt
                  have l2 := hown2.lt
                  have Hkq := Lib.hid hkq
                  clear hkq
                  go_wp2_with (first | (at_builtin; refine wpList_append_any _ rfl (.tmp 79) (.tmp 81) _ rfl w.heap.size 34 i0 _ 4 24 Try.underlying30 hi0 hz0 hz1 hz2 rfl (by omega) (.slice A10 (m + k) c10) (m + k) _ rfl (hown.alloc _) (wr.heap.size + 1) (some ⟨wr.heap.size, 0, none⟩) 1 1 _ rfl (Reads.of_blk (Blk.new wr _ _) (by omega) rfl) (by simp [Value.oneCell']) (by unfold maxLen; omega) (by omega) (by simp; omega) ?_; intro v1 Wc hown1 hg1 hat1; obtain ⟨A12, c12, rfl⟩ := own_slice hown1; have hX1 := own_grown (hown2.alloc _) hg1 hne) | (at_builtin; refine wpList_append_any _ rfl (.tmp 83) (.tmp 84) _ rfl w.heap.size 26 i1 _ 1 8 Try.underlying35 hi1 hy0 hy1 hy2 rfl (by omega) (.slice A11 (ks.length + k) c11) (ks.length + k) _ rfl (hX1.alloc _) (Wc.heap.size + 1) (some ⟨Wc.heap.size, 0, none⟩) 1 1 _ rfl (Reads.of_blk (Blk.new Wc _ _) (by omega) rfl) (by simp [Value.oneCell']) (by unfold maxLen; omega) (by omega) (by have := hg1.size; simp at this; simp; omega) ?_; intro v2 Wd hown3 hg2 hat2; obtain ⟨A13, c13, rfl⟩ := own_slice hown3))
                  have sg1 : wr.heap.size + 1 ≤ Wc.heap.size := by have := hg1.size; simpa using this
                  have l3 := hown1.lt
                  have hK1 : Keep S w9 Wc := (hk.alloc _).grown hg1 hs1
                  have hK2 : Keep S w9 Wd := (hK1.alloc _).grown hg2 hs2
                  have hA13 := own_grown (hown1.alloc _) hg2 (fun x hx h => by
                    rcases hat1 with e | e
                    · exact hne x (e ▸ h) hx
                    · rw [e] at h; injection h with h; have := l2 x hx; simp at h; omega)
                  go_roundg (30 - (k + 1))
                  case measure => have := Hkq.out; omega
                  case rel =>
                    have := Hkq.out
                    refine ⟨k + 1, _, _, by go_num, by omega, hA13, hown3, hK2, ?_, ?_, ?_⟩
                    · intro x hx hlt9
                      rcases hat1 with e | e
                      · exact hs1 x (e ▸ hx) hlt9
                      · have hx' := e.symm.trans hx; injection hx' with h; simp at h; omega
                    · intro x hx hlt9
                      rcases hat2 with e | e
                      · exact hs2 x (e ▸ hx) hlt9
                      · have hx' := e.symm.trans hx; injection hx' with h; simp at h; omega
                    · intro x hx hy
                      have b1 := l3 x hx
                      rcases hat2 with e | e
                      · have hy' := e ▸ hy
                        rcases hat1 with e1 | e1
                        · exact hne x (e1 ▸ hx) hy'
                        · have hx' := e1.symm.trans hx; injection hx' with h; have := l2 x hy'; simp at h; omega
                      · have hy' := e.symm.trans hy; injection hy' with h; simp at h; omega
                · have hk30 : k = 30 := by omega
                  subst hk30
                  clear hkq
                  obtain ⟨We, rfl⟩ : ∃ W : World, W = wr := ⟨_, rfl⟩
                  have hBe := ownsRow_keep hB9 hk hSB
                  have hYe := ownsRow_keep hY9 hk hSY
                  have hKe := ownsRow_keep hK9 hk hSK
                  have hCe := ownsRow_keep hownC hk hSC
                  have hDe := hD9.keep hk hSF (fun _ h => h)
                  have hWe : Below w.heap.size w We := hW9.trans (hk.below hW9.size hSw)
                  have hm16 : m ≤ 40 := by omega
                  go_wp2_with fail
                  refine (same_any A5 A8 m c5 c8 We.heap.size kl _ (Reads.of_own hBe) (Reads.of_own hKe) (by omega)).mono ?_
                  rintro e Wf ⟨rfl, q1, rfl⟩
                  go_wp2_with fail
                  have hCq := own_below hCe (belowN (Below.refl _ _) q1)
                  have hYq := own_below hYe (belowN (Below.refl _ _) q1)
                  refine (equalErrno_any A7 A9 _ c7 c9 (We.drewN q1).heap.size ks _ (Reads.of_own hYq) (Reads.of_own hCq) (by omega)).mono ?_
                  rintro e Wf ⟨rfl, q2, rfl⟩
                  go_wp2_with fail
                  have hDf := hDe.drewN (q1 + q2)
                  have hKf := own_below hKe (belowN (Below.refl _ _) (q1 + q2))
                  have hCf := own_below hCe (belowN (Below.refl _ _) (q1 + q2))
                  have hWf := belowN hWe (q1 + q2)
                  refine (diagRecords_any a L F _ hDf).mono ?_
                  rintro e Wg ⟨v14, rfl, hown14, hbe14⟩
                  rw [hke, hm] at hown14
                  obtain ⟨A14, c14, rfl⟩ := own_slice hown14
                  go_wp2_with fail
                  refine (same_any A14 A8 m c14 c8 Wg.heap.size kl _ (Reads.of_own hown14) (Reads.of_own (own_below hKf hbe14)) (by omega)).mono ?_
                  rintro e Wh ⟨rfl, q3, rfl⟩
                  have hbh := belowN hbe14 q3
                  have hDh := hDf.below hbh
                  have hCh := own_below hCf hbh
                  have hWh := hWf.trans (hbh.mono hWf.size)
                  go_wp2_with fail
                  refine (diagCodes_any a L F _ hDh (by omega)).mono ?_
                  rintro e Wi ⟨v15, js, rfl, hjs, hown15, hbe15⟩
                  obtain rfl : ks = js := codes_unique hks hjs
                  obtain ⟨A15, c15, rfl⟩ := own_slice hown15
                  have hWi := hWh.trans (hbe15.mono hWh.size)
                  go_wp2_with fail
                  refine (equalErrno_any A15 A9 _ c15 c9 Wi.heap.size ks _ (Reads.of_own hown15) (Reads.of_own (own_below hCh hbe15)) (by omega)).mono ?_
                  rintro e Wj ⟨rfl, q4, rfl⟩
                  go_wp2_with fail
                  go_ret
                  exact ⟨rfl, belowN hWi q4⟩
end Go.Proofs.Ytialafoofjgchaa
