/- The walk of DiagPlays: the program's diagnosis and the reference's log side by side. -/
import Derived.Test.YtialafoofjgchaaDiagL
import Derived.Test.YtialafoofjgchaaCodes
import Derived.Test.YtialafoofjgchaaLawKit12
import Derived.Test.YtialafoofjgchaaNoteB
import Derived.Deep.RegionHeld3
namespace Go.Proofs.Ytialafoofjgchaa
open Go.RowKit
set_option maxHeartbeats 10000000
set_option maxRecDepth 100000

/-- The diagnosis and the log, in blocks of their own. -/
structure Both (B : Nat) (w : World) (a b : Nat) (L M : List Rec) (F G : Nat → Prop) : Prop where
  d : DiagIs w a L F
  l : ∃ v, LogIs w b 49 #[v] 0 M G
  fb : ∀ x, F x → B ≤ x ∧ x < w.heap.size
  gb : ∀ x, G x → B ≤ x ∧ x < w.heap.size
  bb : B ≤ b ∧ b < w.heap.size
  dis : ∀ x, F x → ¬ G x ∧ x ≠ b
section
variable {B a b off : Nat} {t : TypeId} {cs : Array Value} {w w' : World} {L M L' M' : List Rec} {F G F' G' : Nat → Prop}
theorem LogIs.below (h : LogIs w b t cs off L F) (hb : Below w.heap.size w w') : LogIs w' b t cs off L F := by
  have h0 := h
  obtain ⟨A, c, D⟩ := h0
  exact h.keep (S := fun _ => False) (Keep.of_below hb) (fun _ _ h => h) (fun _ h => h) (D.blk.below hb D.blk.lt) rfl
theorem Both.below (h : Both B w a b L M F G) (hb : Below w.heap.size w w') : Both B w' a b L M F G := by
  obtain ⟨v, hl⟩ := h.l
  have hs := hb.size
  exact ⟨h.d.below hb, ⟨v, hl.below hb⟩, fun x hx => by have := h.fb x hx; omega, fun x hx => by have := h.gb x hx; omega, by have := h.bb; omega, h.dis⟩
theorem Both.noteD (h : Both B w a b L M F G) (hd : DiagIs w' a L' F') (hk : Keep F w w') (hF : ∀ x, F' x → F x ∨ (w.heap.size ≤ x ∧ x < w'.heap.size)) : Both B w' a b L' M F' G := by
  obtain ⟨v, hl⟩ := h.l
  obtain ⟨A, c, D⟩ := hl
  have hs := hk.size
  refine ⟨hd, ⟨v, LogIs.keep ⟨A, c, D⟩ hk (fun x hx hf => (h.dis x hf).1 hx) (fun _ h => h) (D.blk.keep hk (fun hf => (h.dis b hf).2 rfl)) rfl⟩, ?_, fun x hx => by have := h.gb x hx; omega, by have := h.bb; omega, ?_⟩
  · intro x hx
    rcases hF x hx with h1 | h1
    · have := h.fb x h1; omega
    · have := h.bb; omega
  · intro x hx
    rcases hF x hx with h1 | h1
    · exact h.dis x h1
    · exact ⟨fun hg => by have := h.gb x hg; omega, by have := h.bb; omega⟩
theorem Both.noteL (h : Both B w a b L M F G) {v0 : Value} (hl : ∃ v, LogIs w' b 49 (#[v0].setIfInBounds 0 v) 0 M' (fun x => G x ∨ (w.heap.size ≤ x ∧ x < w'.heap.size))) (hk : Keep (fun x => G x ∨ x = b) w w') :
    Both B w' a b L M' F (fun x => G x ∨ (w.heap.size ≤ x ∧ x < w'.heap.size)) := by
  obtain ⟨v, hl⟩ := hl
  have hs := hk.size
  refine ⟨h.d.keep hk (fun x hx hg => by
      rcases hg with hg | hg
      · exact (h.dis x hx).1 hg
      · exact (h.dis x hx).2 hg) (fun _ h => h), ⟨v, hl⟩, fun x hx => by have := h.fb x hx; omega, ?_, by have := h.bb; omega, ?_⟩
  · rintro x (hx | hx)
    · have := h.gb x hx; omega
    · have := h.bb; omega
  · intro x hx
    refine ⟨?_, (h.dis x hx).2⟩
    rintro (hg | hg)
    · exact (h.dis x hx).1 hg
    · have := h.fb x hx; omega
end
theorem diagPlays_any (A : Option Addr) (n c : Nat) (l : List Rec) (asked : Int) (w : World) (hz : Reads w w.heap.size 4 A n (recsCells l)) (hn : n ≤ 17592186044416) :
    Calls Try.prog 6 #[.slice A n c, .int .i64 asked] w fun e w' => e = .returned (.bool true) ∧ Below w.heap.size w w' := by
  have hl : l.length = n := by have := hz.1; rw [recsCells_length] at this; omega
  have Hl := Lib.hid hl
  clear hl
  go_enter Try.func6, Try.ntmps6
  go_wp2_with fail
  refine (awake12 _).mono ?_
  rintro e w1 ⟨rfl, hb1⟩
  go_wp2_with fail
  refine (diagNew_any _).mono ?_
  rintro e w2 ⟨a, rfl, hD, hb2⟩
  have hB2 : Below w.heap.size w w2 := hb1.trans (hb2.mono hb1.size)
  have hs1 := hb1.size
  go_wp2_with fail
  go_loopg [7] 300 (fun q v7 wr => ∃ (i : Nat) (L : List Rec) (F G : Nat → Prop), v7 = .int .i64 i ∧ i + q = 300 ∧ i ≤ n ∧ L.length ≤ i ∧ Both w.heap.size wr a w2.heap.size L L F G ∧ Below w.heap.size w wr)
  case atStart =>
    have hba : Below w2.heap.size w2 (w2.alloc (.cells #[.slice none 0 0] 49)) := (Below.refl _ _).alloc (Nat.le_refl _) _
    refine ⟨0, [], _, fun _ => False, rfl, by omega, by omega, by simp, ⟨hD.below hba, ⟨.slice none 0 0, none, 0, Blk.new _ _ _, rfl, World.ownsRow_nil _ _ _ _, by simp [Value.ownBlock], by decide⟩, ?_, by simp, ?_, ?_⟩, hB2.alloc hB2.size _⟩
    · intro x hx
      have := hba.size
      omega
    · have := hB2.size
      simp; omega
    · intro x hx
      exact ⟨id, by omega⟩
  case round =>
    obtain ⟨i, L, F, G, rfl, hq, hin, hLi, hBo, hB⟩ := hrel
    clear hD hB2 hb1 hb2 hs1
    by_cases hlt : i < n ∧ i < 300
    · obtain ⟨h1, h2⟩ := hlt
      obtain ⟨r, hr⟩ : ∃ r, l[i]? = some r := ⟨_, List.getElem?_eq_getElem (by rw [Hl.out]; exact h1)⟩
      obtain ⟨ad, rfl, p0, p1, p2, p3⟩ := reads_rec (hz.below hB) h1 hr
      clear hr
      have Hq := Lib.hid hq
      clear hq
      have hsz := hB.size
      have hbl : Below wr.heap.size wr (wr.alloc (.cells r.cells 34)) := (Below.refl _ _).alloc (Nat.le_refl _) _
      have hB1 := hBo.below hbl
      have hg8 := Blk.new wr 34 r.cells
      have hfb := hBo.fb
      have hgb := hBo.gb
      have hbb := hBo.bb
      obtain ⟨g8, Hg8⟩ : ∃ g, Hid (g = wr.heap.size) := ⟨_, Lib.hid rfl⟩
      go_wp2_with fail
      rw [← Hg8.out]
      refine (diagNote_both a L F _ _ _ _ hB1.d (by omega)).mono ?_
      rintro e w3 ⟨nn, ee, L', F', rfl, hD3, hk3, hF3, hcase⟩
      have hB3 : Below w.heap.size w w3 := (hB.alloc hsz _).trans (hk3.below (by simp; omega) (fun b h => (hfb b h).1))
      have hBo3 := hB1.noteD hD3 hk3 hF3
      have hb3 : Blk w3 g8 34 r.cells := (Hg8.out ▸ hg8).keep hk3 (fun h => by have := hfb _ h; have := Hg8.out; omega)
      have hA8 : ∀ i, w3.cell? ⟨g8, i, none⟩ = (#[.int .i64 r.at_, .int .i64 r.code, .int .u32 r.s, .int .u32 r.k] : Array Value)[i]? := hb3.cell
      have hs3 : wr.heap.size < w3.heap.size := by have := hk3.size; simp at this; omega
      clear hD3 hB1 hBo hg8 hk3 hF3 hbl hB hsz
      go_upto_if 45 with fail
      go_cut [9, 10] from 18 to 150 (fun _v9 _v10 wc => ∃ (L' : List Rec) (F' G' : Nat → Prop), Both w.heap.size wc a w2.heap.size L' L' F' G' ∧ L'.length ≤ i + 1 ∧ Blk wc g8 34 r.cells ∧ Below w.heap.size w wc)
      case first =>
        rcases hcase with ⟨h0, rfl, rfl, rfl⟩ | ⟨h0, rfl, rfl, rfl⟩
        · have h1 : (r.code == 0) = true := by simpa using h0
          go_wp2_with fail
          go_meet
          exact ⟨_, _, _, hBo3, by omega, hb3, hB3⟩
        · have h1 : (r.code == 0) = false := by simpa using h0
          obtain ⟨v0, hl0⟩ := hBo3.l
          go_wp2_with fail
          refine (refNote_any _ 0 _ _ L G _ _ _ _ hl0 (by omega)).mono ?_
          rintro e w4 ⟨rfl, hl4, hk4⟩
          have hBo4 := hBo3.noteL hl4 hk4
          go_wp2_with fail
          go_meet
          refine ⟨_, _, _, hBo4, by simp; omega, hb3.keep hk4 ?_, hB3.trans (hk4.below hB3.size ?_)⟩
          · rintro (h | h)
            · have := hgb _ h; have := Hg8.out; omega
            · have := Hg8.out; omega
          · rintro x (h | h)
            · exact (hgb x h).1
            · omega
      case rest =>
        obtain ⟨L', F', G', hBo', hL', hb8, hB'⟩ := hcut
        clear hcase hBo3 hb3 hA8 hB3 hs3 hLi
        obtain ⟨W3, rfl⟩ : ∃ W : World, W = wc := ⟨_, rfl⟩
        go_wp2_with fail
        refine (diagLast_any a L' F' _ hBo'.d).mono ?_
        rintro e w5 ⟨rfl, hb5⟩
        obtain ⟨rc, ok, hlast, hok⟩ : ∃ (rc : Rec) (ok : Bool), lastVal L'.getLast? = .tuple #[.agg #[.int .i64 rc.at_, .int .i64 rc.code, .int .u32 rc.s, .int .u32 rc.k], .bool ok] ∧ ((L' = [] ∧ rc = Rec.zero ∧ ok = false) ∨ (L'.getLast? = some rc ∧ ok = true)) := by
          cases hg : L'.getLast? with
          | none => exact ⟨_, _, rfl, .inl ⟨List.getLast?_eq_none_iff.1 hg, rfl, rfl⟩⟩
          | some x => exact ⟨_, _, rfl, .inr ⟨rfl, rfl⟩⟩
        rw [hlast]
        have hbA : Below w5.heap.size w5 (w5.alloc (.cells rc.cells 34)) := (Below.refl _ _).alloc (Nat.le_refl _) _
        have hBo5 := (hBo'.below hb5).below hbA
        have h8 := (hb8.below hb5 hb8.lt).below hbA (Nat.lt_of_lt_of_le hb8.lt hb5.size)
        have hB5 : Below w.heap.size w (w5.alloc (.cells rc.cells 34)) := (hB'.trans (hb5.mono hB'.size)).alloc (by have := hB'.size; have := hb5.size; omega) _
        have h11 := Blk.new w5 34 rc.cells
        clear hBo' hb8 hB' hb5 hbA hlast
        go_upto_if 116 with fail
        generalize hW6 : w5.alloc (.cells #[.int .i64 rc.at_, .int .i64 rc.code, .int .u32 rc.s, .int .u32 rc.k] 34) = W6
        have hBo6 : Both w.heap.size W6 a w2.heap.size L' L' F' G' := hW6 ▸ hBo5
        have hb8 : Blk W6 g8 34 r.cells := hW6 ▸ h8
        have hB6 : Below w.heap.size w W6 := hW6 ▸ hB5
        have h11' : Blk W6 w5.heap.size 34 rc.cells := hW6 ▸ h11
        clear hBo5 h8 hB5 h11 hW6
        generalize w5.heap.size = g11 at h11' ⊢
        have hA11 : ∀ i, W6.cell? ⟨g11, i, none⟩ = (#[.int .i64 rc.at_, .int .i64 rc.code, .int .u32 rc.s, .int .u32 rc.k] : Array Value)[i]? := h11'.cell
        go_cut [116] from 18 to 150 (fun v116 wc => v116 = .bool false ∧ Both w.heap.size wc a w2.heap.size L' L' F' G' ∧ Blk wc g8 34 r.cells ∧ Below w.heap.size w wc)
        case first =>
          obtain ⟨vL, A6, c6, D6⟩ := hBo6.l
          have hC6 : W6.cell? ⟨w2.heap.size, 0, none⟩ = some (.slice A6 L'.length c6) := (D6.blk.cell 0).trans D6.at_
          obtain ⟨m, hm⟩ : ∃ m, m = L'.length := ⟨_, rfl⟩
          have hT : ∀ k, Calls Try.prog 11 #[.pointer (some ⟨a, 0, none⟩)] (W6.drewN k) fun e w' => e = .returned (.int .i64 m) ∧ w' = W6.drewN k := fun k => by rw [hm]; exact diagTotal_any a L' F' _ (hBo6.d.drewN k) (by omega)
          rw [← hm] at hC6
          rcases hok with ⟨hnil, hz, rfl⟩ | ⟨hl, rfl⟩
          · subst hz
            obtain rfl : m = 0 := by rw [hm, hnil]; rfl
            clear hm D6 hA11
            have hA11 : ∀ i, W6.cell? ⟨g11, i, none⟩ = (#[.int .i64 0, .int .i64 0, .int .u32 0, .int .u32 0] : Array Value)[i]? := h11'.cell
            have heq : ∀ W, (binOp .neq 34 (.agg #[.int .i64 0, .int .i64 0, .int .u32 0, .int .u32 0]) (.agg #[.int .i64 0, .int .i64 0, .int .u32 0, .int .u32 0])).run Try.prog W = .ok (.bool false) W := fun _ => by kernel_rfl
            go_big_quiet ((go_at_call 11; exact Calls.quiet_of_same (hT _)))
            go_wp2_with fail
            go_meet
            exact ⟨rfl, hBo6.below (belowN (Below.refl _ _) _), hb8, belowN hB6 _⟩
          · obtain ⟨p, rfl⟩ : ∃ p, m = p + 1 := by
              cases m with
              | zero => rw [List.eq_nil_of_length_eq_zero hm.symm] at hl; cases hl
              | succ p => exact ⟨p, rfl⟩
            have hlp : L'[p]? = some rc := by rw [← hl, List.getLast?_eq_getElem?, ← hm]; rfl
            have hrow := D6.row
            obtain ⟨g6, rfl, hcell⟩ := own_recs hrow (by omega)
            obtain ⟨e0, e1, e2, e3⟩ := hcell p _ hlp
            have hw1 : IntKind.i64.wrap ((p : Int) + 1 - 1) = p := by rw [Int.add_sub_cancel]; exact IntWalk.i64_in _ (by omega)
            have hw2 : IntKind.i64.wrap (p : Int) = p := IntWalk.i64_in _ (by omega)
            have hp0 : 0 ≤ (p : Int) := by omega
            have hp2 : (p : Int) < ((p + 1 : Nat) : Int) := by omega
            have hp1 : (p : Int) < (p : Int) + 1 := by omega
            clear hm D6 hrow hcell hlp hl
            go_big_quiet ((go_at_call 11; exact Calls.quiet_of_same (hT _)))
            go_wp2_with fail
            go_meet
            exact ⟨rfl, hBo6.below (belowN (Below.refl _ _) _), hb8, belowN hB6 _⟩
        case rest =>
          obtain ⟨rfl, hBo7, hb8, hB7⟩ := hcut
          clear hBo6 hB6 hok hA11 h11'
          obtain ⟨W7, rfl⟩ : ∃ W : World, W = wc := ⟨_, rfl⟩
          have hkept : (kept L').length < 1073741823 := by unfold kept; rw [List.length_drop]; omega
          have hll : L'.length < 1073741823 := by omega
          replace hBo7 := hBo7.below (Below.refl _ _).drew
          replace hb8 := hb8.drew
          replace hB7 := hB7.drew
          go_wp2_with fail
          go_region_held3 (fun w' => w'.cell? ⟨g8, 1, none⟩ = some (.int .i64 r.code)) (exact (hb8.cell 1).trans rfl) (first
            | (go_at_call 10; refine (diagRecords_any a L' F' _ hBo7.d).mono ?_; rintro e W8 ⟨v8, rfl, hown8, hbe8⟩; obtain ⟨A8, c8, rfl⟩ := own_slice hown8; replace hBo7 := hBo7.below hbe8; replace hb8 := hb8.below hbe8 hb8.lt; replace hB7 := hB7.trans (hbe8.mono hB7.size); clear hbe8)
            | (go_at_call 20; obtain ⟨_, hl8⟩ := hBo7.l; refine (refRecords_any _ 0 _ _ L' G' _ hl8 (by omega)).mono ?_; rintro e W9 ⟨v9, rfl, hown9, hbe9⟩; obtain ⟨A9, c9, rfl⟩ := own_slice hown9; replace hBo7 := hBo7.below hbe9; replace hb8 := hb8.below hbe9 hb8.lt; replace hB7 := hB7.trans (hbe9.mono hB7.size); have hr8 := ((Reads.of_own hown8).below hbe9).more hbe9.size; clear hbe9 hl8 hown8)
            | (go_at_call 17; refine (same_any A8 A9 _ c8 c9 W9.heap.size (kept L') _ hr8 (Reads.of_own hown9) hkept).mono ?_; rintro e W10 ⟨rfl, k10, rfl⟩; replace hBo7 := hBo7.below (belowN (Below.refl _ _) k10); replace hb8 : Blk (W9.drewN k10) g8 34 r.cells := hb8; replace hB7 := belowN hB7 k10; clear hr8 hown9)
            | (go_at_call 12; refine (diagCodes_any a L' F' _ hBo7.d (by omega)).mono ?_; rintro e W11 ⟨v11, ks, rfl, hks, hown11, hbe11⟩; obtain ⟨A11, c11, rfl⟩ := own_slice hown11; replace hBo7 := hBo7.below hbe11; replace hb8 := hb8.below hbe11 hb8.lt; replace hB7 := hB7.trans (hbe11.mono hB7.size); clear hbe11)
            | (go_at_call 21; obtain ⟨_, hl11⟩ := hBo7.l; refine (refCodes_any _ 0 _ _ L' G' _ hl11 (by omega)).mono ?_; rintro e W12 ⟨v12, js, rfl, hjs, hown12, hbe12⟩; obtain rfl : ks = js := codes_unique hks hjs; obtain ⟨A12, c12, rfl⟩ := own_slice hown12; have hkl := codes_length hks; replace hBo7 := hBo7.below hbe12; replace hb8 := hb8.below hbe12 hb8.lt; replace hB7 := hB7.trans (hbe12.mono hB7.size); have hr11 := ((Reads.of_own hown11).below hbe12).more hbe12.size; clear hbe12 hl11 hown11 hjs hks)
            | (go_at_call 18; refine (equalErrno_any A11 A12 _ c11 c12 W12.heap.size ks _ hr11 (Reads.of_own hown12) (by omega)).mono ?_; rintro e W13 ⟨rfl, k13, rfl⟩; replace hBo7 := hBo7.below (belowN (Below.refl _ _) k13); replace hb8 : Blk (W12.drewN k13) g8 34 r.cells := hb8; replace hB7 := belowN hB7 k13; clear hr11 hown12 hkl)
            | (go_at_call 13; refine (diagCount_any a L' F' _ _ hBo7.d (by omega)).mono ?_; rintro e w' ⟨rfl, rfl⟩)
            | (go_at_call 22; obtain ⟨_, hl13⟩ := hBo7.l; refine (refCount_any _ 0 _ _ L' G' _ _ hl13 (by omega)).mono ?_; rintro e w' ⟨rfl, rfl⟩))
          go_wp2_with fail
          go_roundg (300 - (i + 1))
          case measure => have := Hq.out; omega
          case rel =>
            have := Hq.out
            exact ⟨i + 1, L', F', G', by go_num, by omega, by omega, hL', hBo7, hB7⟩
    · have hd : decide (i < n ∧ i < 300) = false := by simpa using hlt
      obtain ⟨W0, rfl⟩ : ∃ W : World, W = wr := ⟨_, rfl⟩
      clear hBo hz Hl hLi
      go_upto_region 6 with fail
      go_cut [25] from 18 to 150 (fun v25 wc => v25 = .bool (decide (i < n ∧ i < 300)) ∧ wc = W0)
      case first =>
        by_cases h1 : i < n
        · have h2 : ¬ i < 300 := fun h => hlt ⟨h1, h⟩
          go_wp2_with fail
          go_meet
          exact ⟨by have e : ((i : Int) < 300) ↔ (i < 300) := by omega
                    simp [h1, h2, e], rfl⟩
        · go_wp2_with fail
          go_meet
          exact ⟨by simp [h1], rfl⟩
      case rest =>
        obtain ⟨rfl, hwc⟩ := hcut
        subst hwc
        rw [hd]
        clear hlt hd hq hin
        go_wp2_with fail
        go_ret
        exact ⟨rfl, hB⟩
end Go.Proofs.Ytialafoofjgchaa
