/- Between the base and the laws, part 6: contracts and plain lemmas, no statement. -/
import Derived.Test.YtlldgfejcjnpkaaGreatMid5
set_option linter.unusedVariables false
/- parapetlaw16.build. -/
namespace Go.Proofs.YtlldgfejcjnpkaaGreat
open Go.RowKit
set_option maxHeartbeats 10000000
set_option maxRecDepth 100000

theorem MuxH.more {B : Nat} {w w1 w2 W : World} {z x y : Nat} {R R' : List PRow} {lost lq : Int} {Q Q' : List QRow} {F G U FD GD : Nat → Prop} {vd vm vr : Value} (h : MuxH B w z x y R lost Q lq F G U) (hk1 : Keep F w w1) (hP : MuxIs B w1 x R' lost (grow (fun g => F g ∨ FD g) w w1))
    (hk2 : Keep G w1 w2) (hQ : RMuxIs B w2 y Q' lq (grow (fun g => G g ∨ GD g) w1 w2)) (hFD : ∀ g, FD g → g < w.heap.size ∧ ¬ G g ∧ ¬ U g) (hGD : ∀ g, GD g → g < w.heap.size ∧ ¬ F g ∧ ¬ U g) (hdj : ∀ g, FD g → ¬ GD g)
    (hk3 : Keep U w2 W) (ht : TabAt W z x y (R'.map PRow.a) (R'.map PRow.ma) (Q'.map QRow.b) (grow U w2 W) vd vm vr) :
    MuxH B W z x y R' lost Q' lq (grow (fun g => F g ∨ FD g) w w1) (grow (fun g => G g ∨ GD g) w1 w2) (grow U w2 W) := by
  have hF := h.prog.lo
  have hG := h.ref.lo
  have hU := h.ulo
  have s1 := hk1.size
  have s2 := hk2.size
  have s3 := hk3.size
  have hB := h.prog.Ble
  have fg : ∀ k, grow (fun g => F g ∨ FD g) w w1 k → ¬ grow (fun g => G g ∨ GD g) w1 w2 k := by
    intro k hk hg
    rcases hk with (hk | hk) | hk <;> rcases hg with (hg | hg) | hg
    · exact h.fg k hk hg
    · exact (hGD k hg).2.1 hk
    · have := hF k hk; omega
    · exact (hFD k hk).2.1 hg
    · exact hdj k hk hg
    · have := hFD k hk; omega
    · have := hG k hg; omega
    · have := hGD k hg; omega
    · omega
  have uf : ∀ k, U k → ¬ grow (fun g => F g ∨ FD g) w w1 k := by
    intro k hu hk
    rcases hk with (hk | hk) | hk
    · exact h.uf k hu hk
    · exact (hFD k hk).2.2 hu
    · have := hU k hu; omega
  have ug : ∀ k, U k → ¬ grow (fun g => G g ∨ GD g) w1 w2 k := by
    intro k hu hk
    rcases hk with (hk | hk) | hk
    · exact h.ug k hu hk
    · exact (hGD k hk).2.2 hu
    · have := hU k hu; omega
  have hPlt : ∀ k, grow (fun g => F g ∨ FD g) w w1 k → k < w1.heap.size := fun k hk => (hP.lo k hk).2
  have hQlt : ∀ k, grow (fun g => G g ∨ GD g) w1 w2 k → k < w2.heap.size := fun k hk => (hQ.lo k hk).2
  refine ⟨(hP.keepS hk2 (fun k hk hg => fg k hk (.inl (.inl hg)))).keepS hk3 (fun k hk hu => uf k hu hk), hQ.keepS hk3 (fun k hk hu => ug k hu hk), fg, fun k hu hk => ?_, fun k hu hk => ?_, fun k hu => ?_, vd, vm, vr, ht⟩
  · rcases hu with hu | hu
    · exact uf k hu hk
    · have := hPlt k hk; omega
  · rcases hu with hu | hu
    · exact ug k hu hk
    · have := hQlt k hk; omega
  · rcases hu with hu | hu
    · have := hU k hu; omega
    · omega
theorem MuxW.start {w w1 : World} {x : Nat} (hM : MuxIs w.heap.size w1 x [] 0 (fun g => w.heap.size ≤ g ∧ g < w1.heap.size)) (hz : w.heap.size ≤ w1.heap.size) :
    MuxW w.heap.size ((w1.alloc (.cells #[.slice none 0 0, .slice none 0 0, .int .i64 0] 152)).alloc (.cells #[.pointer (some ⟨x, 0, none⟩), .pointer (some ⟨w1.heap.size, 0, none⟩), .slice none 0 0, .slice none 0 0, .slice none 0 0] 78)) (w1.heap.size + 1) x w1.heap.size [] [] 0 (fun g => w.heap.size ≤ g ∧ g < w1.heap.size) (fun g => g = w1.heap.size) (fun g => g = w1.heap.size + 1) 0 := by
  have hb := ((Below.refl w1.heap.size w1).alloc (Nat.le_refl _) (.cells #[.slice none 0 0, .slice none 0 0, .int .i64 0] 152)).alloc (by simp) (.cells #[.pointer (some ⟨x, 0, none⟩), .pointer (some ⟨w1.heap.size, 0, none⟩), .slice none 0 0, .slice none 0 0, .slice none 0 0] 78)
  have hsz : ((w1.alloc (.cells #[.slice none 0 0, .slice none 0 0, .int .i64 0] 152)).alloc (.cells #[.pointer (some ⟨x, 0, none⟩), .pointer (some ⟨w1.heap.size, 0, none⟩), .slice none 0 0, .slice none 0 0, .slice none 0 0] 78)).heap.size = w1.heap.size + 2 := by simp
  refine ⟨⟨hM.below hb, ⟨⟨fun g => if g = w1.heap.size then some 0 else none, .slice none 0 0, .slice none 0 0, ?_, fun g hg => ?_⟩, fun g hg => ?_⟩, fun g hg h => ?_, fun g hu hg => ?_, fun g hu hg => ?_, fun g hu => ?_, ?_⟩, rfl, by simp, by simp, by omega⟩
  · refine { blk := (Blk.new w1 _ _).alloc _, list := World.ownsRow_nil _ _ _ _, seen := World.ownsRow_nil _ _ _ _, dev := fun i q hq => by simp at hq, ky := by simp [Of], kv := fun g hg => by simp [Value.ownBlock] at hg, ks := fun g hg => by simp [Value.ownBlock] at hg, lo := fun g hg => ?_ }
    rw [hsz]
    split at hg
    · omega
    · exact absurd rfl hg
  · dsimp only at hg
    split at hg
    · assumption
    · exact absurd rfl hg
  · rw [hsz]; omega
  · omega
  · omega
  · omega
  · rw [hsz]; omega
  · exact ⟨.slice none 0 0, .slice none 0 0, .slice none 0 0, Blk.new' _ _ _ (by simp), World.ownsRow_nil _ _ _ _, World.ownsRow_nil _ _ _ _, World.ownsRow_nil _ _ _ _, rfl, fun g hg => by simp [Value.ownBlock] at hg, fun g hg => by simp [Value.ownBlock] at hg, fun g hg => by simp [Value.ownBlock] at hg⟩
theorem dptr_info : (Tryz.prog.info? 31).map (fun i => (i.zero, i.size, i.bytes)) = some (some (.pointer none), 1, 8) := by kernel_rfl
theorem mptr_info : (Tryz.prog.info? 24).map (fun i => (i.zero, i.size, i.bytes)) = some (some (.pointer none), 1, 8) := by kernel_rfl
-- TABS
theorem TabAt.app_devs {w w4 : World} {z x y a : Nat} {das mas bs : List Nat} {U : Nat → Prop} {vd vm vr v' : Value} {o : Obj} (h : TabAt w z x y das mas bs U vd vm vr) (hg : (w.alloc o).grownBy w4 vd.ownBlock)
    (hown : w4.ownsRow 0 31 1 v' (das.length + 1) (ptrs das ++ [.pointer (some ⟨a, 0, none⟩)])) (hat : v'.ownBlock = vd.ownBlock ∨ v'.ownBlock = some (w.alloc o).heap.size) :
    TabAt (w4.setCell ⟨z, 2, none⟩ v') z x y (das ++ [a]) mas bs (grow U w (w4.setCell ⟨z, 2, none⟩ v')) v' vm vr ∧ Keep U w (w4.setCell ⟨z, 2, none⟩ v') := by
  have hk : Keep (fun g => vd.ownBlock = some g) w w4 := ((Keep.refl _ w).alloc o).grown hg (fun k h _ => h)
  have hk2 : Keep (fun g => vd.ownBlock = some g ∨ g = z) w (w4.setCell ⟨z, 2, none⟩ v') := (hk.mono (fun g _ hg => .inl hg)).setCell (p := ⟨z, 2, none⟩) (fun _ => .inr rfl) v'
  have hsz : (w4.setCell ⟨z, 2, none⟩ v').heap.size = w4.heap.size := by simp
  have hb4 := h.blk.keep hk (fun hx => own_ne h.devs h.blk (by decide) hx)
  have hrow : (w4.setCell ⟨z, 2, none⟩ v').ownsRow 0 31 1 v' (das ++ [a]).length (ptrs (das ++ [a])) := by
    have h1 := ownsRow_keep hown ((Keep.refl (fun g => g = z) w4).setCell (p := ⟨z, 2, none⟩) (fun _ => rfl) v') (fun g hg hx => own_ne hown hb4 (by decide) (hx ▸ hg))
    rw [List.length_append]
    unfold ptrs at h1 ⊢
    rw [List.map_append]
    exact h1
  exact ⟨⟨hb4.set_ 2 _, hrow, ownsRow_keep h.mems hk2 (fun g hg hx => hx.elim (fun hx => by obtain ⟨cs, hbk⟩ := own_obj h.devs hx; exact own_ne h.mems hbk (by decide) hg) (fun hx => own_ne h.mems h.blk (by decide) (hx ▸ hg))), ownsRow_keep h.refs hk2 (fun g hg hx => hx.elim (fun hx => by obtain ⟨cs, hbk⟩ := own_obj h.devs hx; exact own_ne h.refs hbk (by decide) hg) (fun hx => own_ne h.refs h.blk (by decide) (hx ▸ hg))), .inl h.uz, fun g hg => hat.elim (fun e => .inl (h.ud g (e ▸ hg))) (fun e => .inr (by rw [e] at hg; injection hg with hg; simp at hg; have h2 := (hown.lt g (by rw [e, ← hg]; simp)).2; exact ⟨by omega, by rw [hsz]; exact h2⟩)), fun g hg => .inl (h.um g hg), fun g hg => .inl (h.ur g hg)⟩, hk2.mono (fun g _ hg => hg.elim (h.ud g) (fun e => e ▸ h.uz))⟩
theorem TabAt.app_mems {w w4 : World} {z x y a : Nat} {das mas bs : List Nat} {U : Nat → Prop} {vd vm vr v' : Value} {o : Obj} (h : TabAt w z x y das mas bs U vd vm vr) (hg : (w.alloc o).grownBy w4 vm.ownBlock)
    (hown : w4.ownsRow 0 24 1 v' (mas.length + 1) (ptrs mas ++ [.pointer (some ⟨a, 0, none⟩)])) (hat : v'.ownBlock = vm.ownBlock ∨ v'.ownBlock = some (w.alloc o).heap.size) :
    TabAt (w4.setCell ⟨z, 3, none⟩ v') z x y das (mas ++ [a]) bs (grow U w (w4.setCell ⟨z, 3, none⟩ v')) vd v' vr ∧ Keep U w (w4.setCell ⟨z, 3, none⟩ v') := by
  have hk : Keep (fun g => vm.ownBlock = some g) w w4 := ((Keep.refl _ w).alloc o).grown hg (fun k h _ => h)
  have hk2 : Keep (fun g => vm.ownBlock = some g ∨ g = z) w (w4.setCell ⟨z, 3, none⟩ v') := (hk.mono (fun g _ hg => .inl hg)).setCell (p := ⟨z, 3, none⟩) (fun _ => .inr rfl) v'
  have hsz : (w4.setCell ⟨z, 3, none⟩ v').heap.size = w4.heap.size := by simp
  have hb4 := h.blk.keep hk (fun hx => own_ne h.mems h.blk (by decide) hx)
  have hrow : (w4.setCell ⟨z, 3, none⟩ v').ownsRow 0 24 1 v' (mas ++ [a]).length (ptrs (mas ++ [a])) := by
    have h1 := ownsRow_keep hown ((Keep.refl (fun g => g = z) w4).setCell (p := ⟨z, 3, none⟩) (fun _ => rfl) v') (fun g hg hx => own_ne hown hb4 (by decide) (hx ▸ hg))
    rw [List.length_append]
    unfold ptrs at h1 ⊢
    rw [List.map_append]
    exact h1
  exact ⟨⟨hb4.set_ 3 _, ownsRow_keep h.devs hk2 (fun g hg hx => hx.elim (fun hx => by obtain ⟨cs, hbk⟩ := own_obj h.mems hx; exact own_ne h.devs hbk (by decide) hg) (fun hx => own_ne h.devs h.blk (by decide) (hx ▸ hg))), hrow, ownsRow_keep h.refs hk2 (fun g hg hx => hx.elim (fun hx => by obtain ⟨cs, hbk⟩ := own_obj h.mems hx; exact own_ne h.refs hbk (by decide) hg) (fun hx => own_ne h.refs h.blk (by decide) (hx ▸ hg))), .inl h.uz, fun g hg => .inl (h.ud g hg), fun g hg => hat.elim (fun e => .inl (h.um g (e ▸ hg))) (fun e => .inr (by rw [e] at hg; injection hg with hg; simp at hg; have h2 := (hown.lt g (by rw [e, ← hg]; simp)).2; exact ⟨by omega, by rw [hsz]; exact h2⟩)), fun g hg => .inl (h.ur g hg)⟩, hk2.mono (fun g _ hg => hg.elim (h.um g) (fun e => e ▸ h.uz))⟩
theorem TabAt.app_refs {w w4 : World} {z x y a : Nat} {das mas bs : List Nat} {U : Nat → Prop} {vd vm vr v' : Value} {o : Obj} (h : TabAt w z x y das mas bs U vd vm vr) (hg : (w.alloc o).grownBy w4 vr.ownBlock)
    (hown : w4.ownsRow 0 38 1 v' (bs.length + 1) (ptrs bs ++ [.pointer (some ⟨a, 0, none⟩)])) (hat : v'.ownBlock = vr.ownBlock ∨ v'.ownBlock = some (w.alloc o).heap.size) :
    TabAt (w4.setCell ⟨z, 4, none⟩ v') z x y das mas (bs ++ [a]) (grow U w (w4.setCell ⟨z, 4, none⟩ v')) vd vm v' ∧ Keep U w (w4.setCell ⟨z, 4, none⟩ v') := by
  have hk : Keep (fun g => vr.ownBlock = some g) w w4 := ((Keep.refl _ w).alloc o).grown hg (fun k h _ => h)
  have hk2 : Keep (fun g => vr.ownBlock = some g ∨ g = z) w (w4.setCell ⟨z, 4, none⟩ v') := (hk.mono (fun g _ hg => .inl hg)).setCell (p := ⟨z, 4, none⟩) (fun _ => .inr rfl) v'
  have hsz : (w4.setCell ⟨z, 4, none⟩ v').heap.size = w4.heap.size := by simp
  have hb4 := h.blk.keep hk (fun hx => own_ne h.refs h.blk (by decide) hx)
  have hrow : (w4.setCell ⟨z, 4, none⟩ v').ownsRow 0 38 1 v' (bs ++ [a]).length (ptrs (bs ++ [a])) := by
    have h1 := ownsRow_keep hown ((Keep.refl (fun g => g = z) w4).setCell (p := ⟨z, 4, none⟩) (fun _ => rfl) v') (fun g hg hx => own_ne hown hb4 (by decide) (hx ▸ hg))
    rw [List.length_append]
    unfold ptrs at h1 ⊢
    rw [List.map_append]
    exact h1
  exact ⟨⟨hb4.set_ 4 _, ownsRow_keep h.devs hk2 (fun g hg hx => hx.elim (fun hx => by obtain ⟨cs, hbk⟩ := own_obj h.refs hx; exact own_ne h.devs hbk (by decide) hg) (fun hx => own_ne h.devs h.blk (by decide) (hx ▸ hg))), ownsRow_keep h.mems hk2 (fun g hg hx => hx.elim (fun hx => by obtain ⟨cs, hbk⟩ := own_obj h.refs hx; exact own_ne h.mems hbk (by decide) hg) (fun hx => own_ne h.mems h.blk (by decide) (hx ▸ hg))), hrow, .inl h.uz, fun g hg => .inl (h.ud g hg), fun g hg => .inl (h.um g hg), fun g hg => hat.elim (fun e => .inl (h.ur g (e ▸ hg))) (fun e => .inr (by rw [e] at hg; injection hg with hg; simp at hg; have h2 := (hown.lt g (by rw [e, ← hg]; simp)).2; exact ⟨by omega, by rw [hsz]; exact h2⟩))⟩, hk2.mono (fun g _ hg => hg.elim (h.ur g) (fun e => e ▸ h.uz))⟩
-- END TABS
end Go.Proofs.YtlldgfejcjnpkaaGreat
/- The walk of parapetlaw16.build. -/
namespace Go.Proofs.YtlldgfejcjnpkaaGreat
open Go.RowKit
set_option maxHeartbeats 10000000
set_option maxRecDepth 100000

theorem TabAt.mono {w : World} {z x y : Nat} {das mas bs : List Nat} {U U' : Nat → Prop} {vd vm vr : Value} (h : TabAt w z x y das mas bs U vd vm vr) (hU : ∀ g, U g → U' g) : TabAt w z x y das mas bs U' vd vm vr :=
  ⟨h.blk, h.devs, h.mems, h.refs, hU _ h.uz, fun g hg => hU g (h.ud g hg), fun g hg => hU g (h.um g hg), fun g hg => hU g (h.ur g hg)⟩
/-- What build leaves: both muxes alike. -/
def BuildAns (w : World) (e : Ending) (w' : World) : Prop := ∃ (z x y : Nat) (R : List PRow) (Q : List QRow) (F G U : Nat → Prop), e = .returned (.tuple #[.pointer (some ⟨z, 0, none⟩), .bool true]) ∧ MuxW w.heap.size w' z x y R Q 0 F G U 0 ∧ Below w.heap.size w w'
theorem build_any (A : Option Addr) (n c : Nat) (l : List Int) (w : World) (hr : Reads w w.heap.size 1 A n (u32c l)) (hl : ∀ x ∈ l, 0 ≤ x ∧ x < 4294967296) (hn : n ≤ 140737488351232) :
    Calls Tryz.prog 27 #[.slice A n c] w fun e w' => BuildAns w e w' := by
  have hll : l.length = n := by have := hr.1; simpa [u32c] using this
  have Hll := Lib.hid hll
  have Hr := Lib.hid hr
  have Hl := Lib.hid hl
  clear hll hr hl
  obtain ⟨i1, hi1, ha0, ha1, ha2⟩ := info_parts dptr_info
  obtain ⟨i2, hi2, hb0, hb1', hb2'⟩ := info_parts mptr_info
  obtain ⟨i3, hi3, hc0, hc1, hc2⟩ := info_parts rptr_info
  go_enter Tryz.func27, Tryz.ntmps27
  go_wp2_with fail
  refine (muxNew_any w.heap.size w (Nat.le_refl _)).mono ?_
  rintro e w1 ⟨x, rfl, hM1, hb1⟩
  have hz1 := hb1.size
  have hW0 := MuxW.start hM1 hz1
  have hbS := hb1.trans ((((Below.refl w1.heap.size w1).alloc (Nat.le_refl _) (.cells #[.slice none 0 0, .slice none 0 0, .int .i64 0] 152)).alloc (by simp) (.cells #[.pointer (some ⟨x, 0, none⟩), .pointer (some ⟨w1.heap.size, 0, none⟩), .slice none 0 0, .slice none 0 0, .slice none 0 0] 78)).mono hz1)
  clear hM1 hb1
  go_upto_region 3 with fail
  obtain ⟨y, Hy⟩ : ∃ y, Hid (y = w1.heap.size) := ⟨_, Lib.hid rfl⟩
  obtain ⟨z, Hz⟩ : ∃ z, Hid (z = w1.heap.size + 1) := ⟨_, Lib.hid rfl⟩
  rw [← Hz.out, ← Hy.out] at hW0 ⊢
  rw [← Hy.out] at hbS
  generalize (w1.alloc (.cells _ 152)).alloc _ = W0 at *
  go_loopg [5] 12 (fun q v5 wr => ∃ (i : Nat) (R : List PRow) (Q : List QRow) (F G U : Nat → Prop), v5 = .int .i64 i ∧ i + q = 12 ∧ MuxW w.heap.size wr z x y R Q 0 F G U 0 ∧ Below w.heap.size w wr)
  case atStart => exact ⟨0, _, _, _, _, _, rfl, by omega, hW0, hbS⟩
  case round =>
    clear hW0 hbS
    obtain ⟨i, R, Q, F, G, U, rfl, hq, hW, hb⟩ := hrel
    obtain ⟨Wr, rfl⟩ : ∃ W : World, W = wr := ⟨_, rfl⟩
    have Hq := Lib.hid hq
    clear hq
    by_cases hlt : i < n ∧ i < 12
    · obtain ⟨h1, h2⟩ := hlt
      have hx : l[i]? = some (l[i]'(by rw [Hll.out]; exact h1)) := List.getElem?_eq_getElem _
      have hxr := Hl.out _ (List.getElem_mem (by rw [Hll.out]; exact h1 : i < l.length))
      generalize l[i]'(by rw [Hll.out]; exact h1) = co at hx hxr
      obtain ⟨ad, rfl, pl⟩ := reads_u32 (Hr.out.below hb) h1 hx
      have hmade := made_any co Wr hxr
      have h1' : ((i : Nat) : Int) < (n : Int) := by omega
      have h2' : ((i : Nat) : Int) < 12 := by omega
      have hbs := hb.size
      clear hx
      go_wp2_with fail
      refine hmade.mono ?_
      rintro e w3 ⟨hb3, hh⟩
      have hW3 := hW.below hb3
      have hb3' := hb.trans (hb3.mono hbs)
      have hWlt : ∀ k, F k ∨ G k ∨ U k → k < Wr.heap.size := fun k hk => by
        rcases hk with hk | hk | hk
        · exact (hW.h.prog.lo k hk).2
        · exact (hW.h.ref.lo k hk).2
        · exact (hW.h.ulo k hk).2
      clear hmade hb hW pl
      rcases hh with ⟨rfl, ma, rfl⟩ | ⟨hne, a, ma, b, mb, T, rfl, hT, hlo⟩
      · go_wp2_with fail
        go_roundg (12 - (i + 1))
        case measure => have := Hq.out; omega
        case rel => have := Hq.out; exact ⟨i + 1, R, Q, F, G, U, by go_num, by omega, hW3, hb3'⟩
      · obtain ⟨FD, GD, hP, hTS⟩ := (hT.base hbs).pair
        have hinv := hT.inv
        have hTlt := hT.lt
        obtain ⟨vd, vm, vr, htab⟩ := hW3.h.tab
        have hcz := htab.blk.cell
        have hFD : ∀ g, FD g → g < w3.heap.size ∧ ¬ G g ∧ ¬ U g := fun g hg => by
          have h3 := hlo g (hTS g (.inl hg)); have h4 := hTlt g (hTS g (.inl hg))
          exact ⟨h4, fun h => by have := hWlt g (.inr (.inl h)); omega, fun h => by have := hWlt g (.inr (.inr h)); omega⟩
        have hGD : ∀ g, GD g → g < w3.heap.size ∧ ¬ F g ∧ ¬ U g := fun g hg => by
          have h3 := hlo g (hTS g (.inr hg)); have h4 := hTlt g (hTS g (.inr hg))
          exact ⟨h4, fun h => by have := hWlt g (.inl h); omega, fun h => by have := hWlt g (.inr (.inr h)); omega⟩
        have hFnd : ∀ g, F g → ¬ FD g := fun g hg hd => by have h3 := hlo g (hTS g (.inl hd)); have := hWlt g (.inl hg); omega
        have hGnd : ∀ g, G g → ¬ GD g := fun g hg hd => by have h3 := hlo g (hTS g (.inr hd)); have := hWlt g (.inr (.inl hg)); omega
        have hpc : (firstC co).p.code = co := rfl
        by_cases hex : ∃ r ∈ R, r.code = co
        · obtain ⟨r, hrm, hrc⟩ := hex
          obtain ⟨j, hj⟩ := List.getElem?_of_mem hrm
          obtain ⟨q, hqj, hqm, hqs⟩ := hW3.at_ hj
          have hqc : q.code = co := by rw [← hrc]; simp [QRow.code, PRow.code, hqm]
          have hadd := muxAdd_twice w.heap.size x a ma R 0 F FD (firstC co) w3 hW3.h.prog hP.dev hj hrc
          have hradd := fun k => rmuxAdd_twice w.heap.size y b mb Q 0 G GD (firstC co) (w3.drewN k) ((hW3.h.below (belowN (Below.refl _ _) k)).ref) (hP.ref.below (belowN (Below.refl _ _) k)) (by have := hW3.qlen; have := hW3.len8; omega) (i := j) (by rw [hpc, ← hqc]; exact findQ_hit (by rw [hW3.codes]; exact hW3.nodup) hqj)
          have hcz2 := fun k => (htab.blk.drewN k).cell
          have hWk := fun k => hW3.below (belowN (Below.refl _ _) k)
          have hbk := fun k => hb3'.trans ((belowN (Below.refl w3.heap.size w3) k).mono hb3'.size)
          clear hP hinv htab hFD hGD hFnd hGnd hrm hrc hj hqj hqm hqs hqc hpc hTS hTlt hlo hT hWlt
          go_wp2_with fail
          refine hadd.mono ?_
          rintro e w4 ⟨rfl, k, rfl⟩
          go_wp2_with fail
          refine (hradd k).mono ?_
          rintro e w5 ⟨rfl, rfl⟩
          go_wp2_with fail
          go_roundg (12 - (i + 1))
          case measure => have := Hq.out; omega
          case rel => have := Hq.out; exact ⟨i + 1, R, Q, F, G, U, by go_num, by omega, hWk k, hbk k⟩
        · have hnone : ∀ r ∈ R, r.code ≠ co := fun r hr he => hex ⟨r, hr, he⟩
          have hfq : findQ Q co = -1 := findQ_none (fun q hq => by
            have : q.code ∈ Q.map QRow.code := List.mem_map.2 ⟨q, hq, rfl⟩
            rw [hW3.codes] at this
            obtain ⟨r, hr, he⟩ := List.mem_map.1 this
            rw [← he]; exact hnone r hr)
          by_cases hfull : R.length = 8
          · have hadd := muxAdd_full w.heap.size x a ma R 0 F FD (firstC co) w3 hW3.h.prog hP.dev hnone (by omega)
            have hradd := fun k => rmuxAdd_full w.heap.size y b mb Q 0 G GD (firstC co) (w3.drewN k) ((hW3.h.below (belowN (Below.refl _ _) k)).ref) (hP.ref.below (belowN (Below.refl _ _) k)) (by have := hW3.qlen; omega) hfq
            have hcz2 := fun k => (htab.blk.drewN k).cell
            have hWk := fun k => hW3.below (belowN (Below.refl _ _) k)
            have hbk := fun k => hb3'.trans ((belowN (Below.refl w3.heap.size w3) k).mono hb3'.size)
            clear hP hinv htab hFD hGD hFnd hGnd hnone hex hfq hpc hTS hTlt hlo hT hWlt
            go_wp2_with fail
            refine hadd.mono ?_
            rintro e w4 ⟨rfl, k, rfl⟩
            go_wp2_with fail
            refine (hradd k).mono ?_
            rintro e w5 ⟨rfl, rfl⟩
            go_wp2_with fail
            go_roundg (12 - (i + 1))
            case measure => have := Hq.out; omega
            case rel => have := Hq.out; exact ⟨i + 1, R, Q, F, G, U, by go_num, by omega, hWk k, hbk k⟩
          · have hq8 : Q.length < 8 := by have := hW3.qlen; have := hW3.len8; omega
            have hadd := muxAdd_new w.heap.size x a ma R 0 F FD (firstC co) w3 hW3.h.prog hP.dev hinv hFnd hnone (by have := hW3.len8; omega)
            have hqlen := hW3.qlen
            obtain ⟨das, Hdas⟩ : ∃ das, Hid (das = R.map PRow.a) := ⟨_, Lib.hid rfl⟩
            obtain ⟨mas, Hmas⟩ : ∃ mas, Hid (mas = R.map PRow.ma) := ⟨_, Lib.hid rfl⟩
            obtain ⟨bs, Hbs⟩ : ∃ bs, Hid (bs = Q.map QRow.b) := ⟨_, Lib.hid rfl⟩
            rw [← Hdas.out, ← Hmas.out, ← Hbs.out] at htab
            have hd8 : das.length ≤ 8 ∧ mas.length ≤ 8 ∧ bs.length ≤ 8 := by
              have := hW3.len8
              rw [Hdas.out, Hmas.out, Hbs.out]
              simp
              omega
            have HW := Lib.hid hW3
            clear hcz
            have hcz := htab.blk.cell
            go_wp2_with fail
            refine hadd.mono ?_
            rintro e w4 ⟨rfl, s, hM4, hk4⟩
            have hR4 := HW.out.h.ref.keepS hk4 (fun g hg hf => HW.out.h.fg g hf hg)
            have hD4 := hP.ref.keepS hk4 (fun g hg hf => (hGD g hg).2.1 hf)
            have ht4 := htab.keepS hk4 (fun g hu hf => HW.out.h.uf g hu hf)
            have hradd := rmuxAdd_new w.heap.size y b mb Q 0 G GD (firstC co) w4 hR4 hD4 hinv hGnd hq8 hfq
            have hs4 := hk4.size
            clear hcz hadd htab
            have hcz := ht4.blk.cell
            go_wp2_with fail
            refine hradd.mono ?_
            rintro e w5 ⟨rfl, hM5, hk5⟩
            have ht5 := ht4.keepS hk5 (fun g hu hf => HW.out.h.ug g hu hf)
            have hs5 := hk5.size
            clear hcz hradd ht4 hR4 hD4
            have hcz := ht5.blk.cell
            obtain ⟨Ad, cd, rfl⟩ := own_slice ht5.devs
            obtain ⟨Am, cm, rfl⟩ := own_slice ht5.mems
            obtain ⟨Ar, cr, rfl⟩ := own_slice ht5.refs
            have Hs5 := Lib.hid (And.intro hs4 hs5)
            clear hs4 hs5 hnone hex hfq hpc
            go_upto_region 15 with (at_builtin; go_must (refine wpList_append_any _ rfl (.tmp 63) (.tmp 65) _ rfl 0 31 i1 _ 1 8 Tryz.underlying74 hi1 ha0 ha1 ha2 rfl (by omega) (.slice Ad das.length cd) das.length _ rfl (ht5.devs.alloc _) (w5.heap.size + 1) (some ⟨w5.heap.size, 0, none⟩) 1 1 _ rfl (Reads.of_blk (Blk.new w5 _ _) (by omega) rfl) (by simp [Value.oneCell']) (by unfold maxLen; omega) (by omega) (by simp) ?_; intro v4 w6 hown4 hg4 hat4; obtain ⟨A4, c4, rfl⟩ := own_slice hown4; have hB4 := (ht5.blk.alloc (.cells #[.pointer (some ⟨a, 0, none⟩)] 31)).grown hg4 (own_ne ht5.devs ht5.blk (by decide)); have hc4 := hB4.cell; have hf4 := hB4.frozen))
            obtain ⟨ht6, hk6⟩ := ht5.app_devs hg4 hown4 hat4
            have hkU := hk6
            clear hg4 hown4 hat4 hB4 hc4 hf4 ht5 hcz
            generalize w6.setCell ⟨z, 2, none⟩ _ = W6 at *
            have hcz := ht6.blk.cell
            go_upto_region 16 with (at_builtin; go_must (refine wpList_append_any _ rfl (.tmp 73) (.tmp 75) _ rfl 0 24 i2 _ 1 8 Tryz.underlying75 hi2 hb0 hb1' hb2' rfl (by omega) (.slice Am mas.length cm) mas.length _ rfl (ht6.mems.alloc _) (W6.heap.size + 1) (some ⟨W6.heap.size, 0, none⟩) 1 1 _ rfl (Reads.of_blk (Blk.new W6 _ _) (by omega) rfl) (by simp [Value.oneCell']) (by unfold maxLen; omega) (by omega) (by simp) ?_; intro v4 w7 hown4 hg4 hat4; obtain ⟨A4, c4, rfl⟩ := own_slice hown4; have hB4 := (ht6.blk.alloc (.cells #[.pointer (some ⟨ma, 0, none⟩)] 24)).grown hg4 (own_ne ht6.mems ht6.blk (by decide)); have hc4 := hB4.cell; have hf4 := hB4.frozen))
            obtain ⟨ht7, hk7⟩ := ht6.app_mems hg4 hown4 hat4
            clear hg4 hown4 hat4 hB4 hc4 hf4 ht6 hcz
            generalize w7.setCell ⟨z, 3, none⟩ _ = W7 at *
            have hcz := ht7.blk.cell
            go_upto_region 4 with (at_builtin; go_must (refine wpList_append_any _ rfl (.tmp 83) (.tmp 85) _ rfl 0 38 i3 _ 1 8 Tryz.underlying76 hi3 hc0 hc1 hc2 rfl (by omega) (.slice Ar bs.length cr) bs.length _ rfl (ht7.refs.alloc _) (W7.heap.size + 1) (some ⟨W7.heap.size, 0, none⟩) 1 1 _ rfl (Reads.of_blk (Blk.new W7 _ _) (by omega) rfl) (by simp [Value.oneCell']) (by unfold maxLen; omega) (by omega) (by simp) ?_; intro v4 w8 hown4 hg4 hat4; obtain ⟨A4, c4, rfl⟩ := own_slice hown4; have hB4 := (ht7.blk.alloc (.cells #[.pointer (some ⟨b, 0, none⟩)] 38)).grown hg4 (own_ne ht7.refs ht7.blk (by decide)); have hc4 := hB4.cell; have hf4 := hB4.frozen))
            obtain ⟨ht8, hk8⟩ := ht7.app_refs hg4 hown4 hat4
            clear hg4 hown4 hat4 hB4 hc4 hf4 ht7 hcz
            generalize w8.setCell ⟨z, 4, none⟩ _ = W8 at *
            have s6 := hk6.size
            have s7 := hk7.size
            have s8 := hk8.size
            have hk3 : Keep U w5 W8 := (hk6.andThen hk7 (fun g hl hg => hg.elim id (fun h => by omega))).andThen hk8 (fun g hl hg => hg.elim (fun h => h.elim id (fun h => by omega)) (fun h => by omega))
            have htF := ht8.mono (U' := grow U w5 W8) (fun g hg => by
              rcases hg with (((hg | hg) | hg) | hg)
              · exact .inl hg
              · exact .inr ⟨hg.1, by omega⟩
              · exact .inr ⟨by omega, by omega⟩
              · exact .inr ⟨by omega, hg.2⟩)
            have hls : das ++ [a] = (R ++ [(⟨a, ma, s, firstC co, 0⟩ : PRow)]).map PRow.a ∧ mas ++ [ma] = (R ++ [(⟨a, ma, s, firstC co, 0⟩ : PRow)]).map PRow.ma ∧ bs ++ [b] = (Q ++ [(⟨b, mb, firstC co, 0⟩ : QRow)]).map QRow.b := by
              rw [Hdas.out, Hmas.out, Hbs.out]
              simp
            rw [hls.1, hls.2.1, hls.2.2] at htF
            have hMH := HW.out.h.more hk4 hM4 hk5 hM5 hFD hGD (fun g h1 h2 => hP.dj g h1 h2) hk3 htF
            have Hfin : Hid (MuxW w.heap.size W8 z x y (R ++ [⟨a, ma, s, firstC co, 0⟩]) (Q ++ [⟨b, mb, firstC co, 0⟩]) 0 (grow (fun g => F g ∨ FD g) w3 w4) (grow (fun g => G g ∨ GD g) w4 w5) (grow U w5 W8) 0 ∧ Below w.heap.size w W8) := Lib.hid ⟨⟨hMH, by rw [List.map_append, List.map_append, HW.out.same]; rfl, by rw [List.length_append]; have := HW.out.len8; have := HW.out.qlen; simp; omega, fun r hr => by
                rcases List.mem_append.1 hr with h1 | h1
                · exact HW.out.used r h1
                · rw [List.mem_singleton.1 h1]; exact ⟨by show (0 : Int) ≤ 0; decide, by show (0 : Int) ≤ ((0 : Nat) : Int); decide, by show ([] : List Rec).length ≤ 4 * 0; decide⟩, HW.out.lostk⟩,
              ((hb3'.trans (hk4.below hb3'.size (fun g hg => (HW.out.h.prog.lo g hg).1))).trans (hk5.below (by have := hb3'.size; have := Hs5.out; omega) (fun g hg => (HW.out.h.ref.lo g hg).1))).trans (hk3.below (by have := hb3'.size; have := Hs5.out; omega) (fun g hg => (HW.out.h.ulo g hg).1))⟩
            clear hMH htF hls hk3 hk4 hk5 hk6 hk7 hk8 hkU hM4 hM5 ht8 hP hT hTS hTlt hlo hinv hFD hGD hFnd hGnd hWlt hb3 hb3' s6 s7 s8
            go_wp2_with fail
            go_roundg (12 - (i + 1))
            case measure => have := Hq.out; omega
            case rel => have := Hq.out; exact ⟨i + 1, _, _, _, _, _, by go_num, by omega, Hfin.out.1, Hfin.out.2⟩
    · have HF := Lib.hid (And.intro hW hb)
      clear hW hb
      by_cases h1 : i < n
      · have h2 : ¬ i < 12 := fun h => hlt ⟨h1, h⟩
        have h1' : ((i : Nat) : Int) < (n : Int) := by omega
        have h2' : ¬ ((i : Nat) : Int) < 12 := by omega
        go_wp2_with fail
        exact bodyPost_ret (v := .tuple #[.pointer (some ⟨z, 0, none⟩), .bool true]) (by simp [results, Tryz.results27, go_sem]) rfl ⟨z, x, y, R, Q, F, G, U, rfl, HF.out.1, HF.out.2⟩
      · have h1' : ¬ ((i : Nat) : Int) < (n : Int) := by omega
        go_wp2_with fail
        exact bodyPost_ret (v := .tuple #[.pointer (some ⟨z, 0, none⟩), .bool true]) (by simp [results, Tryz.results27, go_sem]) rfl ⟨z, x, y, R, Q, F, G, U, rfl, HF.out.1, HF.out.2⟩
end Go.Proofs.YtlldgfejcjnpkaaGreat
