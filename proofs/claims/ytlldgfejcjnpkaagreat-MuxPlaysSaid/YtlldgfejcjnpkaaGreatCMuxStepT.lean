/- parapetlaw16's step: a tick of all, and no device at all. -/
import Derived.Test.YtlldgfejcjnpkaaGreatCMuxStep
set_option linter.unusedVariables false
namespace Go.Proofs.YtlldgfejcjnpkaaGreat
open Go.RowKit
set_option maxHeartbeats 10000000
set_option maxRecDepth 100000

def QRow.tick (n : Int) (q : QRow) : QRow := { q with m := (q.m.tick n).1 }
def tickTo (n : Int) : List QRow → Nat → List QRow
  | [], _ => []
  | q :: Q, 0 => q :: Q
  | q :: Q, j + 1 => q.tick n :: tickTo n Q j
theorem tickTo_zero (n : Int) (Q : List QRow) : tickTo n Q 0 = Q := by cases Q <;> rfl
theorem tickTo_b (n : Int) : ∀ (Q : List QRow) (j : Nat), (tickTo n Q j).map QRow.b = Q.map QRow.b
  | [], _ => rfl
  | q :: Q, 0 => rfl
  | q :: Q, j + 1 => by simp [tickTo, tickTo_b n Q j, QRow.tick]
theorem tickTo_at (n : Int) : ∀ (Q : List QRow) (j : Nat), (tickTo n Q j)[j]? = Q[j]?
  | [], _ => rfl
  | q :: Q, 0 => rfl
  | q :: Q, j + 1 => by simp [tickTo, tickTo_at n Q j]
theorem tickTo_set (n : Int) : ∀ (Q : List QRow) (j : Nat) (q : QRow), Q[j]? = some q → (tickTo n Q j).set j (q.tick n) = tickTo n Q (j + 1)
  | [], _, _, h => by simp at h
  | q' :: Q, 0, q, h => by simp at h; subst h; simp [tickTo, tickTo_zero]
  | q' :: Q, j + 1, q, h => by simp at h; simp [tickTo, tickTo_set n Q j q h]
theorem tickTo_all (n : Int) : ∀ (Q : List QRow) (j : Nat), Q.length ≤ j → tickTo n Q j = Q.map (QRow.tick n)
  | [], _, _ => rfl
  | q :: Q, 0, h => by simp at h
  | q :: Q, j + 1, h => by simp at h; simp [tickTo, tickTo_all n Q j h]
theorem RMuxTo.andThen {B : Nat} {w w1 w2 : World} {y : Nat} {Q Q' : List QRow} {lost lost' : Int} {G : Nat → Prop} (h : RMuxTo B w y Q lost G w1) (h2 : RMuxTo B w1 y Q' lost' (grow G w w1) w2) : RMuxTo B w y Q' lost' G w2 := by
  have s1 := h.keep.size
  have s2 := h2.keep.size
  have hg : ∀ g, grow (grow G w w1) w1 w2 g → grow G w w2 g := fun g hg => by
    rcases hg with (hg | hg) | hg
    · exact .inl hg
    · exact .inr ⟨hg.1, by omega⟩
    · exact .inr ⟨by omega, hg.2⟩
  obtain ⟨⟨κ, vl, vs, hM, hF⟩, hlo⟩ := h2.is_
  refine ⟨⟨⟨κ, vl, vs, hM, fun g hk => hg g (hF g hk)⟩, fun g hx => hlo g ?_⟩, h.keep.andThen h2.keep (fun g hl hx => hx.elim id (fun e => by omega))⟩
  rcases hx with hx | hx
  · exact .inl (.inl hx)
  · rcases Nat.lt_or_ge g w1.heap.size with hl | hl
    · exact .inl (.inr ⟨hx.1, hl⟩)
    · exact .inr ⟨hl, hx.2⟩
section
variable {B k : Nat} {w : World} {z x y : Nat} {R : List PRow} {lost : Int} {Q : List QRow} {F G U : Nat → Prop}
theorem MuxW.refs (h : MuxW B w z x y R Q lost F G U k) : ∃ vd vm Ar cr, Blk w z 78 #[.pointer (some ⟨x, 0, none⟩), .pointer (some ⟨y, 0, none⟩), vd, vm, .slice Ar R.length cr] ∧ U z ∧
    ∀ j q, Q[j]? = some q → ∃ rad, Ar = some rad ∧ U rad.block ∧ w.cell? (rad.add j) = some (.pointer (some ⟨q.b, 0, none⟩)) := by
  have hql := h.qlen
  obtain ⟨vd, vm, vr, ht⟩ := h.h.tab
  obtain ⟨Ar, cr, rfl⟩ := own_slice ht.refs
  have hz := ht.blk
  rw [List.length_map, hql] at hz
  refine ⟨_, _, _, _, hz, ht.uz, fun j q hq => ?_⟩
  have hil := (List.getElem?_eq_some_iff.1 hq).1
  obtain ⟨rad, rfl, e3, d3⟩ := ptrs_at ht.refs (by rw [List.length_map]; omega)
  exact ⟨rad, rfl, ht.ur _ e3, d3 j q.b (by rw [List.getElem?_map, hq]; rfl)⟩
end
theorem tickS {w : World} {z j o0 n cr : Nat} {vx vy vd vm : Value} {rad : Addr} {qb : Nat} {x0 x1 x2 x3 x4 x5 x6 x7 : Value} (hZ : Blk w z 78 #[vx, vy, vd, vm, .slice (some rad) n cr]) (hq : w.cell? (rad.add j) = some (.pointer (some ⟨qb, 0, none⟩))) (hO : Blk w o0 97 #[x0, x1, x2, x3, x4, x5, x6, x7]) :
    w.cell? ⟨z, 4, none⟩ = some (.slice (some rad) n cr) ∧ w.cell? (rad.add j) = some (.pointer (some ⟨qb, 0, none⟩)) ∧ w.cell? ⟨o0, 2, none⟩ = some x2 := ⟨(hZ.cell 4).trans rfl, hq, (hO.cell 2).trans rfl⟩
theorem tickS9 {w : World} {z o0 : Nat} {vx vy vd vm vr : Value} {x0 x1 x2 x3 x4 x5 x6 x7 : Value} (hZ : Blk w z 78 #[vx, vy, vd, vm, vr]) (hO : Blk w o0 97 #[x0, x1, x2, x3, x4, x5, x6, x7]) :
    w.cell? ⟨z, 0, none⟩ = some vx ∧ w.cell? ⟨o0, 2, none⟩ = some x2 := ⟨(hZ.cell 0).trans rfl, (hO.cell 2).trans rfl⟩
/-- A tick of all. -/
theorem l16step_tick (B k z x y : Nat) (R : List PRow) (Q : List QRow) (lost : Int) (F G U : Nat → Prop) (place : Int) (o : OpM) (v : Value) (w : World) (h : MuxW B w z x y R Q lost F G U k) (hk : k ≤ 1000000) (h20 : o.kind = 20) :
    Calls Tryz.prog 42 #[.pointer (some ⟨z, 0, none⟩), popVal place o v] w fun e w' => e = .returned (.bool true) ∧ StepAns B z x y R Q U k w w' := by
  obtain ⟨kind, on_, flags, odd, data, at_, word⟩ := o
  simp only at h20
  subst h20
  have hB := h.h.prog.Ble
  have h8 := h.len8
  have hbO := (Below.refl w.heap.size w).alloc (Nat.le_refl _) (.cells #[.int .i64 place, .int .i64 20, .int .i64 on_, .int .i64 flags, .bool odd, v, .int .i64 at_, .int .u32 word] 97)
  have hO := Blk.new w 97 #[.int .i64 place, .int .i64 20, .int .i64 on_, .int .i64 flags, .bool odd, v, .int .i64 at_, .int .u32 word]
  have hGlo := h.h.ref.lo
  have HFo : Hid (∀ {g : Nat}, F g → g < w.heap.size) := Lib.hid (fun hg => (h.h.prog.lo _ hg).2)
  have h1 := h.below hbO
  have hs1 := hbO.size
  have hlR : ∀ r ∈ R, r.m.log.length < 1073741800 := fun r hr => by have := h.used r hr; omega
  obtain ⟨vd, vm, Ar, cr, hZ, hUz, hrow⟩ := h1.refs
  obtain ⟨n, Hn⟩ : ∃ n, Hid (n = R.length) := ⟨_, Lib.hid rfl⟩
  rw [← Hn.out] at hZ h8
  unfold popVal
  simp only
  clear h
  go_enter Tryz.func42, Tryz.ntmps42
  go_upto_region 1 with fail
  obtain ⟨o0, Ho0⟩ : ∃ e, Hid (e = w.heap.size) := ⟨_, Lib.hid rfl⟩
  rw [← Ho0.out] at hO ⊢
  generalize w.alloc (.cells _ 97) = W1 at *
  have hoc := hO.cell
  have HW := Lib.hid h1
  have HlR := Lib.hid hlR
  have Hrow := Lib.hid hrow
  have Hs1 := Lib.hid hs1
  have hcz := hZ.cell
  clear h1 hlR hrow
  by_cases hn : on_ < 0
  · have hn' : ¬ on_ ≥ 0 := by omega
    have hn2 : ¬ 0 ≤ on_ := by omega
    have Hfin : ∀ W, Below W1.heap.size W1 W → Hid (StepAns B z x y R Q U k w W) := fun W hb => Lib.hid ⟨R, Q, lost, F, G, (HW.out.below hb).more, Likes.refl R Q, ((hbO.mono hB).trans (hb.mono (by have := Hs1.out; omega)))⟩
    have htk := fun (W : World) => muxTick_neg x on_ hn W
    go_wp2_with fail
    go_loopg [6] 0 (fun q v6 wr => v6 = .int .i64 0 ∧ Below W1.heap.size W1 wr)
    case atStart => exact ⟨rfl, Below.refl _ _⟩
    case round =>
      obtain ⟨rfl, hb⟩ := hrel
      obtain ⟨Wr, rfl⟩ : ∃ W : World, W = wr := ⟨_, rfl⟩
      have hO' := hO.below hb hO.lt
      have hZ' := hZ.below hb hZ.lt
      have hoc' := hO'.cell
      have hcz' := hZ'.cell
      clear hoc hcz
      have hend : ∀ W, Below W1.heap.size W1 W → Calls Tryz.prog 32 #[.pointer (some ⟨x, 0, none⟩), .int .i64 on_] W fun e w' => e = .returned (.int .i64 2) ∧ w' = W := fun W _ => htk W
      have h0 : (0 : Int) < (n : Int) ∨ ¬ (0 : Int) < (n : Int) := by omega
      rcases h0 with h0 | h0
      all_goals
        (go_upto_region 9 with fail
         clear hoc' hcz'
         replace hO' := hO'.drew
         replace hZ' := hZ'.drew
         replace hb := hb.drew
         go_wp2_with fail
         go_region_held (fun W => W.cell? ⟨z, 0, none⟩ = some (.pointer (some ⟨x, 0, none⟩)) ∧ W.cell? ⟨o0, 2, none⟩ = some (.int .i64 on_)) (with_reducible (exact tickS9 hZ' hO')) (
           (go_at_call 32; refine (hend _ hb).mono ?_; rintro e W5 ⟨rfl, rfl⟩))
         go_wp2_with fail
         go_ret
         exact ⟨rfl, (Hfin _ hb).out⟩)
  · have hn' : on_ ≥ 0 := by omega
    have hn2 : 0 ≤ on_ := by omega
    go_wp2_with fail
    go_loopg [6] n (fun q v6 wr => ∃ (j : Nat), v6 = .int .i64 j ∧ j + q = n ∧ Hid (RMuxTo B W1 y (tickTo on_ Q j) lost G wr))
    case atStart => exact ⟨0, rfl, by omega, Lib.hid (by rw [tickTo_zero]; exact ⟨⟨HW.out.h.ref.1.imp (fun κ hh => hh.imp (fun vl hh => hh.imp (fun vs hh => ⟨hh.1, fun g hg => .inl (hh.2 g hg)⟩))), fun g hg => hg.elim (HW.out.h.ref.lo g) (fun h => by omega)⟩, Keep.refl G W1⟩)⟩
    case round =>
      obtain ⟨j, rfl, hq, HT⟩ := hrel
      obtain ⟨Wr, rfl⟩ : ∃ W : World, W = wr := ⟨_, rfl⟩
      have Hq := Lib.hid hq
      clear hq
      have ht := HT.out
      have hH := HW.out.h.onRef ht (tickTo_b on_ Q j)
      have hO' := hO.keep ht.keep (fun hg => by have h1 := (hGlo o0 hg).2; have h2 := Ho0.out; omega)
      have hZ' := hZ.keep ht.keep (fun hg => HW.out.h.ug z hUz hg)
      by_cases hlt : j < n
      · have hqx : Q[j]? = some (Q[j]'(by rw [HW.out.qlen, ← Hn.out]; exact hlt)) := List.getElem?_eq_getElem _
        generalize Q[j]'(by rw [HW.out.qlen, ← Hn.out]; exact hlt) = q at hqx
        obtain ⟨rad, rfl, hur, hcq⟩ := Hrow.out j q hqx
        have hrl := (HW.out.h.ulo _ hur).2
        have hcq' := (ht.keep.cell_ (p := rad.add j) (by rw [block_of_add]; exact hrl) (by rw [block_of_add]; exact fun hg => HW.out.h.ug _ hur hg)).trans hcq
        have hqt : (tickTo on_ Q j)[j]? = some q := by rw [tickTo_at]; exact hqx
        obtain ⟨GD, hR, hi, hGD, hcl⟩ := hH.ref.onDev hqt
        have hl : q.m.log.length < 1073741600 := by
          obtain ⟨r, hr⟩ : ∃ r, R[j]? = some r := ⟨_, List.getElem?_eq_getElem (by rw [← Hn.out]; exact hlt)⟩
          obtain ⟨q', hq', hqm, _⟩ := HW.out.at_ hr
          rw [hqx] at hq'
          injection hq' with hq'
          subst hq'
          have := HW.out.used r (List.mem_of_getElem? hr)
          rw [hqm]
          omega
        have hGz : ¬ GD z := fun hg => hH.ug z hUz (hGD z hg)
        have hGr : ¬ GD rad.block := fun hg => hH.ug _ hur (hGD _ hg)
        have hGo : ¬ GD o0 := fun hg => (hGD o0 hg).elim (fun hg => by have h1 := (hGlo o0 hg).2; have h2 := Ho0.out; omega) (fun hg => by have := hO.lt; omega)
        have hrl' : rad.block < Wr.heap.size := by have := ht.keep.size; omega
        have hset := tickTo_set on_ Q j q hqx
        have htk := fun (W : World) (hb : Below Wr.heap.size Wr W) => rdTick_any B q.b q.mb q.m GD on_ W (hR.below hb) hi (by omega)
        have hlt' : ((j : Nat) : Int) < (n : Int) := by omega
        have hge : ¬ ((j : Nat) : Int) < 0 := by omega
        have hoc' := hO'.cell
        have hcz' := hZ'.cell
        clear hcq hqt hqx hoc hcz hH hR
        go_upto_region 8 with fail
        clear hoc' hcz'
        replace hO' := hO'.drew
        replace hZ' := hZ'.drew
        have hb := (Below.refl Wr.heap.size Wr).drew
        replace hcq' : Wr.drew.cell? (rad.add j) = some (.pointer (some ⟨q.b, 0, none⟩)) := hcq'
        go_wp2_with fail
        go_region_held (fun W => W.cell? ⟨z, 4, none⟩ = some (.slice (some rad) n cr) ∧ W.cell? (rad.add j) = some (.pointer (some ⟨q.b, 0, none⟩)) ∧ W.cell? ⟨o0, 2, none⟩ = some (.int .i64 on_)) (with_reducible (exact tickS hZ' hcq' hO')) (
          (go_at_call 34; refine (htk _ hb).mono ?_; rintro e W5 ⟨rfl, t5⟩; replace hO' := hO'.keep t5.keep hGo; replace hZ' := hZ'.keep t5.keep hGz; replace hcq' := (t5.keep.cell_ (p := rad.add j) (by rw [block_of_add]; exact hrl') (by rw [block_of_add]; exact hGr)).trans hcq'))
        have hnx := ht.andThen (hcl W5 _ ⟨t5.is_, ((Keep.refl GD Wr).drew).trans t5.keep⟩ (hi.tick on_))
        rw [show ({ q with m := (q.m.tick on_).1 } : QRow) = q.tick on_ from rfl, hset] at hnx
        have Hnx := Lib.hid hnx
        clear hnx hcl t5 ht hO' hZ' hcq' htk
        go_wp2_with fail
        go_roundg (n - (j + 1))
        case measure => have := Hq.out; omega
        case rel => have := Hq.out; exact ⟨j + 1, by go_num, by omega, Hnx⟩
      · have hge : ¬ ((j : Nat) : Int) < (n : Int) := by omega
        have hall := tickTo_all on_ Q j (by rw [HW.out.qlen, ← Hn.out]; omega)
        rw [hall] at hH
        have hT := HW.out.ticked on_
        have htk := fun (W : World) (hb : Below Wr.heap.size Wr W) => muxTick_any B x R lost F on_ W (hH.prog.below hb) hn2 HlR.out
        have hoc' := hO'.cell
        have hcz' := hZ'.cell
        have hB1 : B ≤ W1.heap.size := by have := Hs1.out; omega
        have hBr := (hbO.mono hB).trans (ht.keep.below hB1 (fun g hg => (hGlo g hg).1))
        have hszr := ht.keep.size
        have HH := Lib.hid hH
        have HT2 := Lib.hid hT
        have HBr := Lib.hid hBr
        clear hoc hcz ht hall hH hT hBr
        go_upto_region 9 with fail
        clear hoc' hcz'
        replace hO' := hO'.drew
        replace hZ' := hZ'.drew
        have hb := (Below.refl Wr.heap.size Wr).drew
        go_wp2_with fail
        go_region_held (fun W => W.cell? ⟨z, 0, none⟩ = some (.pointer (some ⟨x, 0, none⟩)) ∧ W.cell? ⟨o0, 2, none⟩ = some (.int .i64 on_)) (with_reducible (exact tickS9 hZ' hO')) (
          (go_at_call 32; refine (htk _ hb).mono ?_; rintro e W5 ⟨rfl, t5⟩; replace hZ' := hZ'.keep t5.keep (fun hg => HH.out.uf z hUz hg); replace hO' := hO'.keep t5.keep (fun hg => by have h1 := (HW.out.h.prog.lo o0 hg).2; have h2 := hO.lt; have h3 := HFo.out hg; have h4 := Ho0.out; omega)))
        have Hfin : Hid (StepAns B z x y R Q U k w W5) := Lib.hid ⟨_, _, lost, _, _, HT2.out.close _ _ _ ((HH.out.below hb).onProg t5 HT2.out.likes.a HT2.out.likes.ma), HT2.out.likes, HBr.out.drew.trans (t5.keep.below (by show B ≤ Wr.heap.size; omega) (fun g hg => (HW.out.h.prog.lo g hg).1))⟩
        clear htk t5 hO' hZ'
        go_wp2_with fail
        go_ret
        exact ⟨rfl, Hfin.out⟩
end Go.Proofs.YtlldgfejcjnpkaaGreat
