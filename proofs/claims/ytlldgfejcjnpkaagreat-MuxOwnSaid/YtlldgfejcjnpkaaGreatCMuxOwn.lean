/- The walk of MuxOwn. -/
import Derived.Test.YtlldgfejcjnpkaaGreatMid6
import Derived.Deep.RegionHeld
set_option linter.unusedVariables false
namespace Go.Proofs.YtlldgfejcjnpkaaGreat
open Go.RowKit
set_option maxHeartbeats 10000000
set_option maxRecDepth 100000

theorem clone32_any (A : Option Addr) (n c : Nat) (xs : List Value) (w : World) (hA : A = none → c = 0) (hr : Reads w w.heap.size 1 A n xs) (h1 : ∀ u ∈ xs, u.oneCell' = true) (hn : n ≤ 1000000) :
    Calls Tryz.prog 29 #[.slice A n c] w fun e w' => ∃ v, e = .returned v ∧ w'.ownsRow w.heap.size 34 1 v n xs ∧ Below w.heap.size w w' := by
  obtain ⟨i0, hi0, hz0, hz1, hz2⟩ := info_parts u32_info
  cases A with
  | none =>
    obtain rfl := hA rfl
    have hn0 : n = 0 := by
      rcases Nat.eq_zero_or_pos n with h | h
      · exact h
      · obtain ⟨ad, h, _⟩ := hr.2 h; cases h
    subst hn0
    have hx : xs = [] := List.eq_nil_of_length_eq_zero (by simpa using hr.1)
    subst hx
    have he := fun (W : World) (a : Option Addr) (n c n' c' : Nat) => Lib.run_eql_slice_nil (P := Tryz.prog) W 68 34 a n c n' c' Tryz.underlying68
    go_enter Tryz.func29, Tryz.ntmps29
    go_wp2_with fail
    go_ret
    exact ⟨_, rfl, World.ownsRow_nil _ _ _ _, Below.refl _ _⟩
  | some ad =>
    have he := fun (W : World) (a : Option Addr) (n c n' c' : Nat) => Lib.run_eql_slice_nil (P := Tryz.prog) W 68 34 a n c n' c' Tryz.underlying68
    go_enter Tryz.func29, Tryz.ntmps29
    go_wp2_with (at_builtin; refine wpList_append_any _ rfl (.tmp 5) (.tmp 6) _ rfl w.heap.size 34 i0 _ 1 4 Tryz.underlying68 hi0 hz0 hz1 hz2 rfl (by omega) (.slice (some ⟨w.heap.size, 0, none⟩) 0 0) 0 [] rfl (World.ownsRow_made w #[] 0 (Nat.le_refl _) (by unfold maxLen; omega) rfl) w.heap.size (some ad) n c xs rfl (hr.alloc (Nat.le_refl _) _) h1 (by unfold maxLen; omega) (by omega) (by simp) ?_; intro v1 w1 hown1 hg1 hat1)
    go_ret
    exact ⟨_, rfl, by simpa using hown1, ((Below.refl _ _).alloc (Nat.le_refl _) _).grown hg1 (by simp) (fun k hk => by simp [Value.ownBlock] at hk; omega)⟩
theorem own_nil_cap {w : World} {base n c : Nat} {e : TypeId} {xs : List Value} {A : Option Addr} (h : w.ownsRow base e 1 (.slice A n c) n xs) : A = none → c = 0 := by
  intro hA
  subst hA
  rcases h.2 with ⟨h, _⟩ | ⟨g, cap, cur, h, _⟩
  · injection h with _ _ h3
  · cases h
/-- What stays while the first list is written over and grown. -/
structure OwnP (B : Nat) (w : World) (z x y : Nat) (R : List PRow) (Q : List QRow) (F G U : Nat → Prop) (vb vk : Value) (bb bk : Nat) : Prop where
  mux : MuxW B w z x y R Q 0 F G U 0
  b : w.ownsRow bb 34 1 vb R.length (u32c (sortI (R.map PRow.code)))
  k : w.ownsRow bk 34 1 vk R.length (u32c (sortI (R.map PRow.code)))
theorem OwnP.keepS {B : Nat} {w w' : World} {z x y : Nat} {R : List PRow} {Q : List QRow} {F G U S : Nat → Prop} {vb vk : Value} {bb bk : Nat} (h : OwnP B w z x y R Q F G U vb vk bb bk) (hk : Keep S w w') (hS : ∀ g, S g → ¬ (vb.ownBlock = some g ∨ vk.ownBlock = some g ∨ F g ∨ G g ∨ U g)) : OwnP B w' z x y R Q F G U vb vk bb bk := by
  have hm := h.mux
  refine ⟨⟨⟨hm.h.prog.keepS hk (fun g hg hs => hS g hs (.inr (.inr (.inl hg)))), hm.h.ref.keepS hk (fun g hg hs => hS g hs (.inr (.inr (.inr (.inl hg))))), hm.h.fg, hm.h.uf, hm.h.ug, fun g hg => by have := hm.h.ulo g hg; have := hk.size; omega, ?_⟩, hm.same, hm.len8, hm.used, hm.lostk⟩, ownsRow_keep h.b hk (fun g hg hs => hS g hs (.inl hg)), ownsRow_keep h.k hk (fun g hg hs => hS g hs (.inr (.inl hg)))⟩
  obtain ⟨vd, vm, vr, ht⟩ := hm.h.tab
  exact ⟨vd, vm, vr, ht.keepS hk (fun g hg hs => hS g hs (.inr (.inr (.inr (.inr hg)))))⟩
theorem OwnP.below {B : Nat} {w w' : World} {z x y : Nat} {R : List PRow} {Q : List QRow} {F G U : Nat → Prop} {vb vk : Value} {bb bk : Nat} (h : OwnP B w z x y R Q F G U vb vk bb bk) (hb : Below w.heap.size w w') : OwnP B w' z x y R Q F G U vb vk bb bk := h.keepS (S := fun _ => False) (Keep.of_below hb) (fun _ h => h.elim)
theorem OwnP.lt {B : Nat} {w : World} {z x y : Nat} {R : List PRow} {Q : List QRow} {F G U : Nat → Prop} {vb vk : Value} {bb bk : Nat} (h : OwnP B w z x y R Q F G U vb vk bb bk) : ∀ g, (vb.ownBlock = some g ∨ vk.ownBlock = some g ∨ F g ∨ G g ∨ U g) → g < w.heap.size := by
  rintro g (hg | hg | hg | hg | hg)
  · exact (h.b.lt g hg).2
  · exact (h.k.lt g hg).2
  · exact (h.mux.h.prog.lo g hg).2
  · exact (h.mux.h.ref.lo g hg).2
  · exact (h.mux.h.ulo g hg).2
theorem OwnP.blkz {B : Nat} {w : World} {z x y : Nat} {R : List PRow} {Q : List QRow} {F G U : Nat → Prop} {vb vk : Value} {bb bk : Nat} (h : OwnP B w z x y R Q F G U vb vk bb bk) : w.cell? ⟨z, 0, none⟩ = some (.pointer (some ⟨x, 0, none⟩)) := by
  obtain ⟨vd, vm, vr, ht⟩ := h.mux.h.tab
  exact (ht.blk.cell 0).trans rfl
theorem MuxW.cellz {B k : Nat} {w : World} {z x y : Nat} {R : List PRow} {lost : Int} {Q : List QRow} {F G U : Nat → Prop} (h : MuxW B w z x y R Q lost F G U k) : w.cell? ⟨z, 0, none⟩ = some (.pointer (some ⟨x, 0, none⟩)) := by
  obtain ⟨vd, vm, vr, ht⟩ := h.h.tab
  exact (ht.blk.cell 0).trans rfl
theorem muxOwn_law (A : Option Addr) (n c : Nat) (l : List Int) (w : World) (hr : Reads w w.heap.size 1 A n (u32c l)) (hl : ∀ x ∈ l, 0 ≤ x ∧ x < 4294967296) (hn : n ≤ 140737488351232) :
    Calls Tryz.prog 5 #[.slice A n c] w fun e w' => e = .returned (.bool true) ∧ Below w.heap.size w w' := by
  obtain ⟨i0, hi0, hz0, hz1', hz2'⟩ := info_parts u32_info
  go_enter Tryz.func5, Tryz.ntmps5
  go_wp2_with fail
  refine (lawAwakeM_any w).mono ?_
  rintro e w1 ⟨rfl, hb1⟩
  have hz1 := hb1.size
  have hbu := build_any A n c l w1 ((hr.below hb1).more hz1) hl hn
  clear hr
  go_wp2_with fail
  refine hbu.mono ?_
  rintro e w2 ⟨z, x, y, R, Q, F, G, U, rfl, hW, hb2⟩
  have hb2' := hb1.trans (hb2.mono hz1)
  have h8 := hW.len8
  have hcod := fun (W : World) (h : MuxW w1.heap.size W z x y R Q 0 F G U 0) => muxCodes_any w1.heap.size x R 0 F W h.h.prog h8
  have hcl : (sortI (R.map PRow.code)).length = R.length := by rw [sortI_length, List.length_map]
  clear hbu hb1 hb2
  go_upto_region 6 with fail
  have hbd := (Below.refl w2.heap.size w2).drew
  have hW1 := hW.below hbd
  have hB := hbd
  have hfirst : True := trivial
  have Hsz2 := Lib.hid hb2'.size
  have hcz := hW.cellz
  have hcz1 := hW1.cellz
  clear hbd
  go_region_held (fun w' => w'.cell? ⟨z, 0, none⟩ = some (.pointer (some ⟨x, 0, none⟩))) (exact hW1.cellz) (first
    | (go_at_call 28; refine (hcod _ hW1).mono ?_; clear hfirst; rintro e w3 ⟨va, rfl, howna, hb3⟩; replace hW1 := hW1.below hb3; replace hB := hB.trans (hb3.mono hB.size); clear hb3)
    | (go_at_call 28; refine (hcod _ hW1).mono ?_; rintro e w4 ⟨vb, rfl, hownb, hb4⟩; replace hW1 := hW1.below hb4; have hga := howna.lt; have hgb := hownb.lt; replace howna := own_below howna hb4; replace hB := hB.trans (hb4.mono hB.size); clear hb4))
  obtain ⟨W4, rfl⟩ : ∃ W : World, W = w4 := ⟨_, rfl⟩
  obtain ⟨Aa, ca, rfl⟩ := own_slice howna
  obtain ⟨Ab, cb, rfl⟩ := own_slice hownb
  have hs4 := hB.size
  have hs2' : w2.drew.heap.size = w2.heap.size := rfl
  have hclo := clone32_any Ab R.length cb (u32c (sortI (R.map PRow.code))) W4 (own_nil_cap hownb) (Reads.of_own hownb) u32_one (by omega)
  have Hfgu := Lib.hid (show ∀ g, F g ∨ G g ∨ U g → g < w2.heap.size from fun g hg => by
    rcases hg with hg | hg | hg
    · exact (hW.h.prog.lo g hg).2
    · exact (hW.h.ref.lo g hg).2
    · exact (hW.h.ulo g hg).2)
  have hb4 : Below w2.heap.size w2 W4 := hB
  clear hcz hcz1 hW hB
  go_wp2_with fail
  refine hclo.mono ?_
  rintro e w5 ⟨vk, rfl, hownk, hb5⟩
  obtain ⟨Ak, ck, rfl⟩ := own_slice hownk
  have hP5 : OwnP w1.heap.size w5 z x y R Q F G U (.slice Ab R.length cb) (.slice Ak R.length ck) _ W4.heap.size := ⟨hW1.below hb5, own_below hownb hb5, hownk⟩
  have howna5 := own_below howna hb5
  have hS0 : ∀ g, (Value.slice Aa R.length ca).ownBlock = some g → ¬ ((Value.slice Ab R.length cb).ownBlock = some g ∨ (Value.slice Ak R.length ck).ownBlock = some g ∨ F g ∨ G g ∨ U g) := fun g hg h => by
    have h1 := hga g hg
    rcases h with h | h | h
    · have := (hgb g h).1; omega
    · have := (hownk.lt g h).1; have := (howna.lt g hg).2; omega
    · have := Hfgu.out g h; omega
  have hb5' : Below w2.heap.size w2 w5 := hb4.trans (hb5.mono hb4.size)
  have hga2 : ∀ g, (Value.slice Aa R.length ca).ownBlock = some g → w2.heap.size ≤ g := fun g hg => by have := (hga g hg).1; omega
  have Hga2 := Lib.hid hga2
  have HS0 := Lib.hid hS0
  clear hclo hW1 hownb howna hownk hb5 hb4 hga hgb hS0 hga2
  go_wp2_with fail
  go_loopg [33] R.length (fun q v33 wr => ∃ (k : Nat) (xs : List Value), v33 = .int .i64 k ∧ k + q = R.length ∧ wr.ownsRow 0 34 1 (.slice Aa R.length ca) R.length xs ∧ OwnP w1.heap.size wr z x y R Q F G U (.slice Ab R.length cb) (.slice Ak R.length ck) _ W4.heap.size ∧ Below w2.heap.size w2 wr)
  case atStart => exact ⟨0, _, rfl, by omega, own_base howna5 (Nat.zero_le _), hP5, hb5'⟩
  case round =>
    clear hP5 howna5 hb5'
    obtain ⟨k, xs, rfl, hq, hown, hP, hbr⟩ := hrel
    obtain ⟨Wr, rfl⟩ : ∃ W : World, W = wr := ⟨_, rfl⟩
    by_cases hlt : k < R.length
    · have Hq := Lib.hid hq
      obtain ⟨g, rfl⟩ := own_some hown (by omega)
      have hcell : ∃ u, Wr.cell? ⟨g, k, none⟩ = some u := by
        have h1 := hown.cellAt k (by omega)
        have h2 : k < xs.length := by have := hown.1; omega
        exact ⟨_, h1.trans (List.getElem?_eq_getElem h2)⟩
      obtain ⟨u, hcu⟩ := hcell
      have hfz := (own_at (k := k) hown).1
      have hlt' : ((k : Nat) : Int) < (R.length : Int) := by omega
      have hkS : Keep (fun y => y = g) Wr (Wr.setCell ⟨g, k, none⟩ (.int .u32 77)) := (Keep.refl (fun y => y = g) Wr).setCell (p := ⟨g, k, none⟩) (fun _ => rfl) _
      have Hown := Lib.hid (own_set1 hown k (.int .u32 77))
      have HP := Lib.hid (hP.keepS hkS (fun y hy => hy ▸ HS0.out g rfl))
      have Hb := Lib.hid (hbr.setCell (p := ⟨g, k, none⟩) (Hga2.out g rfl) (.int .u32 77))
      clear hq hown hP hbr hkS
      go_wp2_with fail
      go_roundg (R.length - (k + 1))
      case measure => have := Hq.out; omega
      case rel => have := Hq.out; exact ⟨k + 1, _, by go_num, by omega, Hown.out, HP.out, Hb.out⟩
    · have hlt' : ¬ ((k : Nat) : Int) < (R.length : Int) := by omega
      have HP := Lib.hid hP
      have Hb := Lib.hid hbr
      have Hown := Lib.hid hown
      clear hq hown hP hbr
      go_wp2_with fail
      go_loopg [5, 9] 20 (fun q v5 v9 wl => ∃ (j : Nat) (A' : Option Addr) (c' : Nat) (xs : List Value), v5 = .slice A' (R.length + j) c' ∧ v9 = .int .i64 j ∧ j + q = 20 ∧ wl.ownsRow 0 34 1 (.slice A' (R.length + j) c') (R.length + j) xs ∧ (∀ g, (Value.slice A' (R.length + j) c').ownBlock = some g → w2.heap.size ≤ g ∧ ¬ ((Value.slice Ab R.length cb).ownBlock = some g ∨ (Value.slice Ak R.length ck).ownBlock = some g ∨ F g ∨ G g ∨ U g)) ∧
        OwnP w1.heap.size wl z x y R Q F G U (.slice Ab R.length cb) (.slice Ak R.length ck) _ W4.heap.size ∧ Below w2.heap.size w2 wl)
      case atStart => exact ⟨0, Aa, ca, _, rfl, rfl, by omega, Hown.out, fun g hg => ⟨Hga2.out g hg, HS0.out g hg⟩, HP.out, Hb.out⟩
      case round =>
        clear HP Hb Hown
        obtain ⟨j, A', c', ys, rfl, rfl, hq, hown, hgg, hP, hbr⟩ := hrel
        obtain ⟨Wl, rfl⟩ : ∃ W : World, W = wr := ⟨_, rfl⟩
        have Hq := Lib.hid hq
        clear hq
        by_cases hj : j < 20
        · have hj' : ((j : Nat) : Int) < 20 := by omega
          have Hgg := Lib.hid hgg
          have HP := Lib.hid hP
          clear hP hgg
          go_wp2_with (at_builtin; go_must (refine wpList_append_any _ rfl (.tmp 44) (.tmp 45) _ rfl 0 34 i0 _ 1 4 Tryz.underlying68 hi0 hz0 hz1' hz2' rfl (by omega) (.slice A' (R.length + j) c') (R.length + j) _ rfl (hown.alloc _) (Wl.heap.size + 1) (some ⟨Wl.heap.size, 0, none⟩) 1 1 _ rfl (Reads.of_blk (Blk.new Wl _ _) (by omega) rfl) (by simp [Value.oneCell']) (by unfold maxLen; omega) (by omega) (by simp) ?_; intro v4 w4 hown4 hg4 hat4; obtain ⟨A4, c4, rfl⟩ := own_slice hown4))
          go_roundg (20 - (j + 1))
          case measure => have := Hq.out; omega
          case rel =>
            have := Hq.out
            have hk4 : Keep (fun g => (Value.slice A' (R.length + j) c').ownBlock = some g) Wl w4 := ((Keep.refl _ Wl).alloc _).grown hg4 (fun k h _ => h)
            have hbs := hbr.size
            refine ⟨j + 1, A4, c4, _, by rw [Nat.add_assoc], by go_num, by omega, hown4, fun g hg => ?_, HP.out.keepS hk4 (fun g hg => (Hgg.out g hg).2), hbr.trans (hk4.below hbs (fun g hg => (Hgg.out g hg).1))⟩
            rcases hat4 with h1 | h1
            · exact Hgg.out g (h1 ▸ hg)
            · have h2 : some g = some (Wl.alloc (.cells #[.int .u32 78] 34)).heap.size := hg.symm.trans h1
              injection h2 with h2
              simp at h2
              exact ⟨by omega, fun h => by have := HP.out.lt g h; omega⟩
        · have hj20 : j = 20 := by have := Hq.out; omega
          subst hj20
          have hge : (20 : Int) ≤ ((R.length + 20 : Nat) : Int) := by omega
          have heq1 := equal32_any Ab Ak R.length cb ck Wl.heap.size _ Wl ((Reads.of_own hP.b)) (Reads.of_own hP.k) (by omega)
          have hbW := hb2'.trans (hbr.mono hb2'.size)
          have hzW := hbW.size
          have hP6 := fun k => hP.below (belowN (Below.refl Wl.heap.size Wl) k)
          have hcz := fun k => (hP6 k).blkz
          have hcd := fun k => hcod _ (hP6 k).mux
          have hbk := fun k => hbW.trans ((belowN (Below.refl Wl.heap.size Wl) k).mono hzW)
          have HP := Lib.hid hP
          clear hown hgg hbr hP
          go_wp2_with fail
          refine heq1.mono ?_
          rintro e w6 ⟨rfl, k6, rfl⟩
          go_wp2_with fail
          refine (hcd k6).mono ?_
          rintro e w7 ⟨v7, rfl, hown7, hb7⟩
          obtain ⟨A7, c7, rfl⟩ := own_slice hown7
          have hP7 := (hP6 k6).below hb7
          have hb7' := (hbk k6).trans (hb7.mono (hbk k6).size)
          have heq2 := equal32_any A7 Ak R.length c7 ck w7.heap.size _ w7 (Reads.of_own hown7) (Reads.of_own hP7.k) (by omega)
          clear hP6 hcz hcd hbk heq1 hown7 hb7
          go_wp2_with fail
          refine heq2.mono ?_
          rintro e w8 ⟨rfl, k8, rfl⟩
          have hb8 := hb7'.trans ((belowN (Below.refl w7.heap.size w7) k8).mono hb7'.size)
          go_wp2_with fail
          go_ret
          exact ⟨rfl, hb8⟩
end Go.Proofs.YtlldgfejcjnpkaaGreat
