/- Between the base and the laws, part 5: contracts and plain lemmas, no statement. -/
import Derived.Test.YtlldgfejcjnpkaaGreatMid2
import Derived.Test.YtlldgfejcjnpkaaGreatMid3
import Derived.Test.YtlldgfejcjnpkaaGreatMid4
import Derived.Deep.RegionHeld3
set_option linter.unusedVariables false
/- The reference's mux: Codes, On. -/
namespace Go.Proofs.YtlldgfejcjnpkaaGreat
open Go.RowKit
set_option maxHeartbeats 10000000
set_option maxRecDepth 100000

theorem map_take_succ {α β : Type} (f : α → β) {Q : List α} {i : Nat} {q : α} (h : Q[i]? = some q) : (Q.take (i + 1)).map f = (Q.take i).map f ++ [f q] := by
  rw [List.take_add_one, h, List.map_append]
  rfl
theorem rmuxCodes_any (B y : Nat) (Q : List QRow) (lost : Int) (F : Nat → Prop) (w : World) (hM : RMuxIs B w y Q lost F) (h8 : Q.length ≤ 8) :
    Calls Tryz.prog 86 #[.pointer (some ⟨y, 0, none⟩)] w fun e w' => ∃ v, e = .returned v ∧ w'.ownsRow w.heap.size 34 1 v Q.length (u32c (sortI (Q.map QRow.code))) ∧ Below w.heap.size w w' := by
  obtain ⟨⟨κ, vl, vs, hM, hF⟩, hlo⟩ := hM
  obtain ⟨A, cl, rfl⟩ := own_slice hM.list
  obtain ⟨i0, hi0, hz0, hz1, hz2⟩ := info_parts u32_info
  have HM := Lib.hid hM
  clear hM hF hlo
  go_enter Tryz.func86, Tryz.ntmps86
  go_wp2_with fail
  go_loopg [3, 4] Q.length (fun q v3 v4 wr => ∃ i : Nat, v4 = .int .i64 i ∧ i + q = Q.length ∧ wr.ownsRow w.heap.size 34 1 v3 i (u32c ((Q.take i).map QRow.code)) ∧ Below w.heap.size w wr)
  case atStart => exact ⟨0, rfl, by omega, by simpa [u32c] using World.ownsRow_nil w w.heap.size 34 1, Below.refl _ _⟩
  case round =>
    obtain ⟨i, rfl, hq, hown, hb⟩ := hrel
    obtain ⟨Wr, rfl⟩ : ∃ W : World, W = wr := ⟨_, rfl⟩
    obtain ⟨A3, c3, rfl⟩ := own_slice hown
    have hMW := HM.out.below hb
    have hcy := hMW.blk.cell
    have Hq := Lib.hid hq
    clear hq
    by_cases hlt : i < Q.length
    · have hqi : Q[i]? = some (Q[i]'hlt) := List.getElem?_eq_getElem hlt
      generalize Q[i]'hlt = q at hqi
      obtain ⟨ad, c', e1, p0⟩ := hMW.ptrAt hqi
      injection e1 with e1 e2 e3
      subst e1
      clear e2 e3
      have p1 := (hMW.dev i q hqi).1.code
      have hmt := map_take_succ QRow.code hqi
      unfold qptr at p0
      have Hmt := Lib.hid hmt
      have hlt' : ((i : Nat) : Int) < (Q.length : Int) := by omega
      clear hmt hqi hMW
      go_wp2_with (at_builtin; go_must (refine wpList_append_any _ rfl (.tmp 14) (.tmp 26) _ rfl w.heap.size 34 i0 _ 1 4 Tryz.underlying68 hi0 hz0 hz1 hz2 rfl (by omega) (.slice A3 i c3) i _ rfl (hown.alloc _) (Wr.heap.size + 1) (some ⟨Wr.heap.size, 0, none⟩) 1 1 _ rfl (Reads.of_blk (Blk.new Wr _ _) (by omega) rfl) (by simp [Value.oneCell']) (by unfold maxLen; omega) (by omega) (by have := hb.size; simp; omega) ?_; intro v4 w4 hown4 hg4 hat4; obtain ⟨A4, c4, rfl⟩ := own_slice hown4))
      go_roundg (Q.length - (i + 1))
      case measure => have := Hq.out; omega
      case rel =>
        have := Hq.out
        refine ⟨i + 1, by go_num, by omega, ?_, (hb.alloc hb.size _).grown hg4 (by have := hb.size; simp; omega) (fun k h => by have := (hown.lt _ h).1; omega)⟩
        rw [Hmt.out, u32c, List.map_append]
        exact hown4
    · have hi : i = Q.length := by have := Hq.out; omega
      subst hi
      have hlt' : ¬ ((Q.length : Nat) : Int) < (Q.length : Int) := by omega
      rw [List.take_length] at hown
      have hri := rising_any A3 Q.length c3 Wr.heap.size (Q.map QRow.code) Wr (Reads.of_own hown) (Nat.le_refl _) (own_cap hown) h8
      clear hMW hown
      go_wp2_with fail
      refine hri.mono ?_
      rintro e w5 ⟨v5, rfl, hown5, hb5⟩
      have Hres := Lib.hid (And.intro (own_base hown5 hb.size) (hb.trans (hb5.mono hb.size)))
      clear hri hown5 hb5 hb
      go_wp2_with fail
      go_ret
      exact ⟨_, rfl, Hres.out⟩
theorem rmuxOn_any (B y : Nat) (Q : List QRow) (lost : Int) (F : Nat → Prop) (w : World) (hM : RMuxIs B w y Q lost F) (h8 : Q.length ≤ 8) :
    Calls Tryz.prog 87 #[.pointer (some ⟨y, 0, none⟩)] w fun e w' => ∃ v, e = .returned v ∧ w'.ownsRow w.heap.size 34 1 v ((Q.filter (fun q => q.m.see.on)).map QRow.code).length (u32c (sortI ((Q.filter (fun q => q.m.see.on)).map QRow.code))) ∧ Below w.heap.size w w' := by
  obtain ⟨⟨κ, vl, vs, hM, hF⟩, hlo⟩ := hM
  obtain ⟨A, cl, rfl⟩ := own_slice hM.list
  obtain ⟨i0, hi0, hz0, hz1, hz2⟩ := info_parts u32_info
  have HM := Lib.hid hM
  obtain ⟨fl, Hfl⟩ : ∃ fl, Hid (fl = (Q.filter (fun q => q.m.see.on)).map QRow.code) := ⟨_, Lib.hid rfl⟩
  rw [← Hfl.out]
  clear hM hF hlo
  go_enter Tryz.func87, Tryz.ntmps87
  go_wp2_with fail
  go_loopg [3, 4] Q.length (fun q v3 v4 wr => ∃ i : Nat, v4 = .int .i64 i ∧ i + q = Q.length ∧ wr.ownsRow w.heap.size 34 1 v3 (((Q.take i).filter (fun q => q.m.see.on)).map QRow.code).length (u32c (((Q.take i).filter (fun q => q.m.see.on)).map QRow.code)) ∧ Below w.heap.size w wr)
  case atStart => exact ⟨0, rfl, by omega, by simpa [u32c] using World.ownsRow_nil w w.heap.size 34 1, Below.refl _ _⟩
  case round =>
    obtain ⟨i, rfl, hq, hown, hb⟩ := hrel
    obtain ⟨Wr, rfl⟩ : ∃ W : World, W = wr := ⟨_, rfl⟩
    obtain ⟨A3, c3, rfl⟩ := own_slice hown
    have hMW := HM.out.below hb
    have hcy := hMW.blk.cell
    have Hq := Lib.hid hq
    clear hq
    by_cases hlt : i < Q.length
    · have hqi : Q[i]? = some (Q[i]'hlt) := List.getElem?_eq_getElem hlt
      generalize Q[i]'hlt = q at hqi
      have hstep : ((Q.take (i + 1)).filter (fun q => q.m.see.on)).map QRow.code = ((Q.take i).filter (fun q => q.m.see.on)).map QRow.code ++ (if q.m.see.on = true then [q.code] else []) := by
        rw [List.take_add_one, hqi, List.filter_append, List.map_append]
        congr 1
        show List.map QRow.code (List.filter (fun q => q.m.see.on) [q]) = _
        rw [List.filter_cons]
        cases q.m.see.on <;> rfl
      have hfl8 : (((Q.take i).filter (fun q => q.m.see.on)).map QRow.code).length ≤ 8 := by
        have h1 := List.length_filter_le (fun q : QRow => q.m.see.on) (Q.take i)
        rw [List.length_take] at h1
        rw [List.length_map]
        omega
      obtain ⟨ad, c', e1, p0⟩ := hMW.ptrAt hqi
      injection e1 with e1 e2 e3
      subst e1
      clear e2 e3
      have p1 := (hMW.dev i q hqi).1.code
      have hsee := rdSee_any B q.b q.mb q.m _ Wr (hMW.dev i q hqi).1 (hMW.dev i q hqi).2
      have hMQ := fun W (h : Below Wr.heap.size Wr W) => HM.out.below (hb.trans (h.mono hb.size))
      unfold qptr at p0
      have hfl7 := end_on
      have hlt' : ((i : Nat) : Int) < (Q.length : Int) := by omega
      have Hst := Lib.hid hstep
      generalize (((Q.take i).filter (fun q => q.m.see.on)).map QRow.code) = fk at *
      generalize hem : q.m.see = em at *
      obtain ⟨st, ses, num, snt, snc, lat, req, on, out⟩ := em
      unfold endVal at hsee
      simp only at hsee Hst
      have Hqi := Lib.hid hqi
      clear hstep hqi hMW hem
      go_wp2_with fail
      refine hsee.mono ?_
      rintro e w2 ⟨xE, rfl, hownE, hb2⟩
      have hown2 := own_below hown hb2
      have hb12 := hb.trans (hb2.mono hb.size)
      have hM2 := hMQ w2 hb2
      have hcy2 := hM2.blk.cell
      obtain ⟨ad2, c2, e1, p2⟩ := hM2.ptrAt Hqi.out
      injection e1 with e1 e2 e3
      injection e1 with e1
      subst e1
      clear e2 e3
      have p3 := (hM2.dev i q Hqi.out).1.code
      unfold qptr at p2
      clear hsee hcy p0 p1 hownE hown hM2 hMQ
      cases on with
      | false =>
        go_wp2_with fail
        go_roundg (Q.length - (i + 1))
        case measure => have := Hq.out; omega
        case rel =>
          have := Hq.out
          have h1 := Hst.out
          rw [if_neg (by decide), List.append_nil] at h1
          exact ⟨i + 1, by go_num, by omega, by rw [h1]; exact hown2, hb12⟩
      | true =>
        go_wp2_with (at_builtin; go_must (refine wpList_append_any _ rfl (.tmp 23) (.tmp 35) _ rfl w.heap.size 34 i0 _ 1 4 Tryz.underlying68 hi0 hz0 hz1 hz2 rfl (by omega) (.slice A3 fk.length c3) fk.length _ rfl (hown2.alloc _) (w2.heap.size + 1) (some ⟨w2.heap.size, 0, none⟩) 1 1 _ rfl (Reads.of_blk (Blk.new w2 _ _) (by omega) rfl) (by simp [Value.oneCell']) (by unfold maxLen; omega) (by omega) (by have := hb12.size; simp; omega) ?_; intro v4 w4 hown4 hg4 hat4; obtain ⟨A4, c4, rfl⟩ := own_slice hown4))
        go_roundg (Q.length - (i + 1))
        case measure => have := Hq.out; omega
        case rel =>
          have := Hq.out
          have h1 := Hst.out
          simp only [if_true] at h1
          refine ⟨i + 1, by go_num, by omega, ?_, (hb12.alloc hb12.size _).grown hg4 (by have := hb12.size; simp; omega) (fun k h => by have := (hown2.lt _ h).1; omega)⟩
          rw [h1, u32c, List.map_append, List.length_append]
          exact hown4
    · have hi : i = Q.length := by have := Hq.out; omega
      subst hi
      have hlt' : ¬ ((Q.length : Nat) : Int) < (Q.length : Int) := by omega
      rw [List.take_length, ← Hfl.out] at hown
      have hfl8 : fl.length ≤ 8 := by
        have h1 := List.length_filter_le (fun q : QRow => q.m.see.on) Q
        rw [Hfl.out, List.length_map]
        omega
      have hri := rising_any A3 fl.length c3 Wr.heap.size fl Wr (Reads.of_own hown) (Nat.le_refl _) (own_cap hown) hfl8
      clear hMW
      rw [List.take_length, ← Hfl.out]
      clear hown hfl8
      go_wp2_with fail
      refine hri.mono ?_
      rintro e w5 ⟨v5, rfl, hown5, hb5⟩
      have Hres := Lib.hid (And.intro (own_base hown5 hb.size) (hb.trans (hb5.mono hb.size)))
      clear hri hown5 hb5 hb
      go_wp2_with fail
      go_ret
      exact ⟨_, rfl, Hres.out⟩
end Go.Proofs.YtlldgfejcjnpkaaGreat
/- The contract of mux.Add. -/
namespace Go.Proofs.YtlldgfejcjnpkaaGreat
open Go.RowKit
set_option maxHeartbeats 10000000
set_option maxRecDepth 100000

theorem muxAdd_twice (B x a ma : Nat) (R : List PRow) (lost : Int) (F FD : Nat → Prop) (m : DevM) (w : World) (hM : MuxIs B w x R lost F) (hD : DevIs B w a ma m FD) {i : Nat} {r : PRow} (hr : R[i]? = some r) (hc : r.code = m.p.code) :
    Calls Tryz.prog 37 #[.pointer (some ⟨x, 0, none⟩), .pointer (some ⟨a, 0, none⟩)] w fun e w' => e = .returned (.int .i64 160) ∧ ∃ k, w' = w.drewN k := by
  obtain ⟨⟨κ, mp, bl, hM, hF⟩, hlo⟩ := hM
  have hcx := hM.blk.cell
  have hlook := fun k => (hM.map.keep ((Keep.refl (fun _ => False) w).drewN k) (fun h => h)).run_lookup (P := Tryz.prog) Tryz.underlying154 Tryz.underlying34 (zero_port (w.drewN k)) m.p.code
  have hlk := lk_port hM.codes hr
  rw [hc] at hlk
  rw [hlk] at hlook
  simp only [Option.getD_some] at hlook
  have hcd := fun k => devCode_any B a ma m FD (w.drewN k) (hD.below (belowN (Below.refl w.heap.size w) k))
  have hfl := port_dev (some ⟨r.a, 0, none⟩) (some ⟨r.s, 0, none⟩)
  clear hM hF hlo hr hlk hc
  go_enter Tryz.func37, Tryz.ntmps37
  go_wp2_with fail
  go_big_quiet ((go_at_call 82; exact Calls.quiet_of_same (hcd _)))
  go_wp2_with fail
  go_ret
  exact ⟨rfl, _, rfl⟩
theorem muxAdd_full (B x a ma : Nat) (R : List PRow) (lost : Int) (F FD : Nat → Prop) (m : DevM) (w : World) (hM : MuxIs B w x R lost F) (hD : DevIs B w a ma m FD) (hc : ∀ r ∈ R, r.code ≠ m.p.code) (hl : 8 ≤ R.length) :
    Calls Tryz.prog 37 #[.pointer (some ⟨x, 0, none⟩), .pointer (some ⟨a, 0, none⟩)] w fun e w' => e = .returned (.int .i64 150) ∧ ∃ k, w' = w.drewN k := by
  obtain ⟨⟨κ, mp, bl, hM, hF⟩, hlo⟩ := hM
  have hcx := hM.blk.cell
  have hmp := fun k => hM.map.keep ((Keep.refl (fun _ => False) w).drewN k) (fun h => h)
  have hlook := fun k => (hmp k).run_lookup (P := Tryz.prog) Tryz.underlying154 Tryz.underlying34 (zero_port (w.drewN k)) m.p.code
  have hlen := fun k t => (hmp k).run_len (P := Tryz.prog) Tryz.underlying154 t
  rw [lk_port_none hc] at hlook
  simp only [Option.getD_none] at hlook
  rw [List.length_map] at hlen
  have hcd := fun k => devCode_any B a ma m FD (w.drewN k) (hD.below (belowN (Below.refl w.heap.size w) k))
  have hfl := port_dev none none
  have hge : (8 : Int) ≤ (R.length : Int) := by omega
  clear hc hmp hM hF hlo
  go_enter Tryz.func37, Tryz.ntmps37
  go_wp2_with fail
  go_big_quiet ((go_at_call 82; exact Calls.quiet_of_same (hcd _)))
  go_wp2_with fail
  go_ret
  exact ⟨rfl, _, rfl⟩
open Classical in
/-- The new port's blocks in their colours. -/
noncomputable def tint (κ : Nat → Option Nat) (b n : Nat) (FD : Nat → Prop) : Nat → Option Nat := fun y => if y = b then some (2 * n + 10) else if FD y then some (2 * n + 11) else κ y
theorem tint_old {κ : Nat → Option Nat} {b n t y : Nat} {FD : Nat → Prop} (h : Of κ t y) (hb : y ≠ b) (hF : ¬ FD y) : Of (tint κ b n FD) t y := by
  unfold Of tint
  rw [if_neg hb, if_neg hF]
  exact h
/-- A map entry more. -/
def mapMore (w : World) (mp : Nat) (l : List (Int × Value)) (p : Int × Value) : World := { w with heap := w.heap.setIfInBounds mp (.map (MapG.entsK .u32 (l ++ [p]) 0).toArray (l.length + 1)) }
theorem MuxAt.added {B x a ma mp bl k : Nat} {R : List PRow} {lost : Int} {κ : Nat → Option Nat} {FD : Nat → Prop} {m : DevM} {w : World} (h : MuxAt B w x R lost κ mp bl) (hD : DevIs B w a ma m FD) (hi : m.Inv) (hdj : ∀ y, κ y ≠ none → ¬ FD y) (hc : ∀ r ∈ R, r.code ≠ m.p.code) :
    MuxAt B (mapMore ((w.drewN k).alloc (.cells (meterCells 0 none) 241)) mp (R.map PRow.port) (m.p.code, .agg #[.pointer (some ⟨a, 0, none⟩), .pointer (some ⟨w.heap.size, 0, none⟩)])) x (R ++ [⟨a, ma, w.heap.size, m, 0⟩]) lost (tint κ w.heap.size R.length FD) mp bl ∧
    Keep (fun y => y = mp) w (mapMore ((w.drewN k).alloc (.cells (meterCells 0 none) 241)) mp (R.map PRow.port) (m.p.code, .agg #[.pointer (some ⟨a, 0, none⟩), .pointer (some ⟨w.heap.size, 0, none⟩)])) := by
  have hlt : ∀ t y, Of κ t y → y < w.heap.size := fun t y hy => (h.lo y (by rw [show κ y = some t from hy]; simp)).2
  have hnf : ∀ t y, Of κ t y → ¬ FD y := fun t y hy => hdj y (by rw [show κ y = some t from hy]; simp)
  have hold : ∀ t y, Of κ t y → Of (tint κ w.heap.size R.length FD) t y := fun t y hy => tint_old hy (by have := hlt t y hy; omega) (hnf t y hy)
  have hk1 : Keep (fun y => y = mp) w ((w.drewN k).alloc (.cells (meterCells 0 none) 241)) := ((Keep.refl _ w).drewN k).alloc _
  have hk : Keep (fun y => y = mp) w (mapMore ((w.drewN k).alloc (.cells (meterCells 0 none) 241)) mp (R.map PRow.port) (m.p.code, .agg #[.pointer (some ⟨a, 0, none⟩), .pointer (some ⟨w.heap.size, 0, none⟩)])) :=
    hk1.trans ((MapG.keep_setObj _ mp _).mono (fun _ _ h => h))
  have hsz : (mapMore ((w.drewN k).alloc (.cells (meterCells 0 none) 241)) mp (R.map PRow.port) (m.p.code, .agg #[.pointer (some ⟨a, 0, none⟩), .pointer (some ⟨w.heap.size, 0, none⟩)])).heap.size = w.heap.size + 1 := by simp [mapMore, World.drewN]
  have hS : ∀ t y, t ≠ 1 → Of κ t y → ¬ y = mp := fun t y ht hy e => (hy.ne ht) (e ▸ h.km)
  have hmp : mp < w.heap.size := hlt 1 _ h.km
  have hmap1 : MapG.MapIs .u32 ((w.drewN k).alloc (.cells (meterCells 0 none) 241)) mp (R.map PRow.port) := (h.map.keep ((Keep.refl (fun _ => False) w).drewN k) (fun h => h)).keep ((Keep.refl (fun _ => False) _).alloc _) (fun h => h)
  have hget : ∀ i r, (R ++ [⟨a, ma, w.heap.size, m, 0⟩] : List PRow)[i]? = some r → R[i]? = some r ∨ (i = R.length ∧ r = ⟨a, ma, w.heap.size, m, 0⟩) := fun i r hr => by
    rw [List.getElem?_append] at hr
    split at hr
    · exact .inl hr
    · rename_i hn
      have : i - R.length = 0 := by
        rcases Nat.eq_zero_or_pos (i - R.length) with h0 | h0
        · exact h0
        · rw [List.getElem?_eq_none (by simp; omega)] at hr; cases hr
      rw [this] at hr
      simp at hr
      exact .inr ⟨by omega, hr.symm⟩
  have hnew : Blk ((w.drewN k).alloc (.cells (meterCells 0 none) 241)) w.heap.size 241 (meterCells 0 none) := Blk.new (w.drewN k) _ _
  refine ⟨{ blk := h.blk.keep hk (hS 0 _ (by omega) h.kx), map := ?_, lostB := h.lostB.keep hk (hS 2 _ (by omega) h.kl), seen := fun i r hr => ?_, dev := fun i r hr => ?_, kx := hold _ _ h.kx, km := hold _ _ h.km, kl := hold _ _ h.kl, lo := fun y hy => ?_, codes := ?_ }, hk⟩
  · have := hmap1.updated m.p.code (.agg #[.pointer (some ⟨a, 0, none⟩), .pointer (some ⟨w.heap.size, 0, none⟩)])
    rw [List.map_append]
    exact this
  · rcases hget i r hr with h1 | ⟨rfl, rfl⟩
    · exact ⟨(h.seen i r h1).1.keep hk (hS _ _ (by omega) (h.seen i r h1).2), hold _ _ (h.seen i r h1).2⟩
    · exact ⟨hnew.keep (MapG.keep_setObj _ mp _) (by omega), by unfold Of tint; rw [if_pos rfl]⟩
  · rcases hget i r hr with h1 | ⟨rfl, rfl⟩
    · refine ⟨?_, (h.dev i r h1).2⟩
      obtain ⟨⟨κ', c, d, v, g, val, hA, hF⟩, hl⟩ := (h.dev i r h1).1.keepS hk (fun y => hS _ y (by omega))
      refine ⟨⟨κ', c, d, v, g, val, hA, fun y hy => hold _ _ (hF y hy)⟩, fun y hy => ?_⟩
      rw [hsz]
      unfold Of tint at hy
      split at hy
      · injection hy with hy; omega
      · split at hy
        · have := hD.lo y (by assumption); omega
        · have := hl y hy; rw [hsz] at this; exact this
    · refine ⟨?_, hi⟩
      obtain ⟨⟨κ', c, d, v, g, val, hA, hF⟩, hl⟩ := hD.keepS hk (fun y hy e => hdj mp (by rw [show κ mp = some 1 from h.km]; simp) (e ▸ hy))
      refine ⟨⟨κ', c, d, v, g, val, hA, fun y hy => ?_⟩, fun y hy => ?_⟩
      · have := (hD.lo y (hF y hy)).2
        unfold Of tint
        rw [if_neg (by omega), if_pos (hF y hy)]
      · rw [hsz]
        unfold Of tint at hy
        split at hy
        · injection hy with hy; omega
        · split at hy
          · have := hD.lo y (by assumption); omega
          · have := h.lo y (by rw [show κ y = _ from hy]; simp); omega
  · rw [hsz]
    unfold tint at hy
    split at hy
    · have := h.Ble; omega
    · split at hy
      · have := hD.lo y (by assumption); omega
      · have := h.lo y hy; omega
  · rw [List.map_append, List.nodup_append]
    refine ⟨h.codes, by simp, fun c hc1 c2 hc2 e => ?_⟩
    simp [PRow.code] at hc2
    obtain ⟨r, hr, he⟩ := List.mem_map.1 hc1
    exact hc r hr (he.trans (e.trans hc2))
theorem muxAdd_new (B x a ma : Nat) (R : List PRow) (lost : Int) (F FD : Nat → Prop) (m : DevM) (w : World) (hM : MuxIs B w x R lost F) (hD : DevIs B w a ma m FD) (hi : m.Inv) (hdj : ∀ y, F y → ¬ FD y) (hc : ∀ r ∈ R, r.code ≠ m.p.code) (hl : R.length < 8) :
    Calls Tryz.prog 37 #[.pointer (some ⟨x, 0, none⟩), .pointer (some ⟨a, 0, none⟩)] w fun e w' => e = .returned (.int .i64 0) ∧ ∃ s, MuxIs B w' x (R ++ [⟨a, ma, s, m, 0⟩]) lost (grow (fun y => F y ∨ FD y) w w') ∧ Keep F w w' := by
  obtain ⟨⟨κ, mp, bl, hM, hF⟩, hlo⟩ := hM
  have hcx := hM.blk.cell
  have hmp := fun k => hM.map.keep ((Keep.refl (fun _ => False) w).drewN k) (fun h => h)
  have hlook := fun k => (hmp k).run_lookup (P := Tryz.prog) Tryz.underlying154 Tryz.underlying34 (zero_port (w.drewN k)) m.p.code
  have hlen := fun k t => (hmp k).run_len (P := Tryz.prog) Tryz.underlying154 t
  rw [lk_port_none hc] at hlook
  simp only [Option.getD_none] at hlook
  rw [List.length_map] at hlen
  have hcd := fun k => devCode_any B a ma m FD (w.drewN k) (hD.below (belowN (Below.refl w.heap.size w) k))
  have hfl := port_dev none none
  have hlt : ¬ (8 : Int) ≤ (R.length : Int) := by omega
  have Hc := Lib.hid hc
  have HM := Lib.hid hM
  have HL := Lib.hid hlo
  clear hc hmp hM
  go_enter Tryz.func37, Tryz.ntmps37
  go_wp2_with fail
  go_big_quiet ((go_at_call 82; exact Calls.quiet_of_same (hcd _)))
  go_wp2_with fail
  have hMW := HM.out.keepS ((Keep.refl (fun _ => False) w).drewN nq) (fun _ _ h => h)
  have hDW := hD.below (belowN (Below.refl w.heap.size w) nq)
  clear hlook hlen hcd hcx hD HM hlo
  have hbW := belowN (Below.refl w.heap.size w) nq
  have HsW := Lib.hid (show (w.drewN nq).heap.size = w.heap.size from rfl)
  generalize w.drewN nq = W at *
  have hcx := hMW.blk.cell
  have hcd := fun k => devCode_any B a ma m FD (W.drewN k) (hDW.below (belowN (Below.refl W.heap.size W) k))
  have hmd := hMW.map
  have hup : ∀ k, (Instr.mapUpdate 154 (.map (some mp)) (.int .u32 m.p.code) (.agg #[.pointer (some ⟨a, 0, none⟩), .pointer (some ⟨W.heap.size, 0, none⟩)])).run Tryz.prog ((W.drewN k).alloc (.cells (meterCells 0 none) 241)) = .ok () (mapMore ((W.drewN k).alloc (.cells (meterCells 0 none) 241)) mp (R.map PRow.port) (m.p.code, .agg #[.pointer (some ⟨a, 0, none⟩), .pointer (some ⟨W.heap.size, 0, none⟩)])) := fun k => ((hmd.keep ((Keep.refl (fun _ => False) W).drewN k) (fun h => h)).keep (((Keep.refl (fun _ => False) (W.drewN k)).alloc (.cells (meterCells 0 none) 241))) (fun h => h)).run_update (P := Tryz.prog) Tryz.underlying154 Tryz.underlying34 m.p.code (.agg #[.pointer (some ⟨a, 0, none⟩), .pointer (some ⟨W.heap.size, 0, none⟩)]) (lk_port_none Hc.out)
  have HA := Lib.hid (hMW.added (k := 1) hDW hi (fun y hy => hdj y (hF y hy)) Hc.out)
  have HDl := Lib.hid hDW.lo
  have hcA := fun k => ((hMW.blk.drewN k).alloc (.cells (meterCells 0 none) 241)).cell
  go_region_law (go_simp; first
    | (go_at_call 82; refine (devCode_any B a ma m FD _ (hDW.below (belowN (Below.refl W.heap.size W) _))).mono ?_; rintro e w' ⟨rfl, rfl⟩)
    | (go_at_call 83; refine (meterNew_any _).mono ?_; rintro e w' ⟨rfl, rfl⟩))
  all_goals
    (go_wp2_with fail
     refine bodyPost_ret (v := .int .i64 0) (by simp [results, Tryz.results37, go_sem]) rfl ⟨rfl, W.heap.size, ⟨⟨_, mp, bl, HA.out.1, ?_⟩, ?_⟩, ?_⟩)
  all_goals
    (have hsz : (mapMore ((W.drewN 1).alloc (.cells (meterCells 0 none) 241)) mp (R.map PRow.port) (m.p.code, .agg #[.pointer (some ⟨a, 0, none⟩), .pointer (some ⟨W.heap.size, 0, none⟩)])).heap.size = w.heap.size + 1 := by simp [mapMore, World.drewN, HsW.out]
     have hsw := HsW.out)
  all_goals first
    | (intro y hy
       unfold tint at hy
       split at hy
       · exact .inr ⟨by omega, by show y < (mapMore _ _ _ _).heap.size; rw [hsz]; omega⟩
       · split at hy
         · exact .inl (.inr (by assumption))
         · exact .inl (.inl (hF y hy)))
    | (intro y hy
       show B ≤ y ∧ y < (mapMore _ _ _ _).heap.size
       rw [hsz]
       have hb := hMW.Ble
       rcases hy with (hy | hy) | ⟨h1, h2⟩
       · have := HL.out y hy; omega
       · have := HDl.out y hy; omega
       · have h3 : y < (mapMore ((W.drewN 1).alloc (.cells (meterCells 0 none) 241)) mp (R.map PRow.port) (m.p.code, .agg #[.pointer (some ⟨a, 0, none⟩), .pointer (some ⟨W.heap.size, 0, none⟩)])).heap.size := h2
         rw [hsz] at h3
         omega)
    | exact (Keep.of_below hbW).trans (HA.out.2.mono (fun y _ hy => hy ▸ hF _ (by rw [show κ mp = some 1 from hMW.km]; simp)))
end Go.Proofs.YtlldgfejcjnpkaaGreat
/- slices.Equal and slices.Clone at uint32; parapetlaw16.Awake. -/
namespace Go.Proofs.YtlldgfejcjnpkaaGreat
open Go.RowKit
set_option maxHeartbeats 10000000
set_option maxRecDepth 100000

theorem equal32_any (A1 A2 : Option Addr) (n c1 c2 B : Nat) (l : List Int) (w : World) (h1 : Reads w B 1 A1 n (u32c l)) (h2 : Reads w B 1 A2 n (u32c l)) (hn : n < 1073741823) :
    Calls Tryz.prog 30 #[.slice A1 n c1, .slice A2 n c2] w fun e w' => e = .returned (.bool true) ∧ ∃ k, w' = w.drewN k := by
  have hl : l.length = n := by have := h1.1; simpa [u32c] using this
  have Hl := Lib.hid hl
  clear hl
  go_enter Tryz.func30, Tryz.ntmps30
  go_wp2_with fail
  go_loopw [13] (fun v13 wr => ∃ k q : Nat, k ≤ n ∧ v13 = .int .i64 k ∧ wr = w.drewN q) (fun v13 _ => n - (intOf v13).toNat)
  case atStart => exact ⟨0, 0, Nat.zero_le _, rfl, rfl⟩
  case round =>
    obtain ⟨k, q, hk, rfl, rfl⟩ := hrel
    by_cases hlt : k < n
    · obtain ⟨r, hr⟩ : ∃ r, l[k]? = some r := ⟨_, List.getElem?_eq_getElem (by rw [Hl.out]; exact hlt)⟩
      obtain ⟨a1, rfl, p0⟩ := reads_u32 h1 hlt hr
      obtain ⟨a2, rfl, r0⟩ := reads_u32 h2 hlt hr
      clear h1 h2 hr
      go_wp2_with fail
      go_quiet (fail)
      go_wp2_with fail
      exact ⟨⟨k + 1, _, by omega, by go_num, rfl⟩, by simp [intOf]; omega⟩
    · go_wp2_with fail
      go_ret
      exact ⟨rfl, q, rfl⟩
def askC : OpM := ⟨1, 0, 0, false, [], 0, 0⟩
theorem awake_frame : frameD (firstC 7) askC = some (UnitM.mk 1 7 0 0 0 (codeM 7).sign).encode := by kernel_rfl
theorem awake_decode : decodeM (UnitM.mk 1 7 0 0 0 (codeM 7).sign).encode = (UnitM.mk 1 7 0 0 0 (codeM 7).sign, 0) := by decide +kernel
theorem awake_code : ((firstC 7).receive (UnitM.mk 1 7 0 0 0 (codeM 7).sign).encode).2.2 = 0 := by decide +kernel
theorem awake_out : 0 < ((firstC 7).receive (UnitM.mk 1 7 0 0 0 (codeM 7).sign).encode).2.1.length := by decide +kernel
theorem lawAwakeM_any (w : World) : Calls Tryz.prog 26 #[] w fun e w' => e = .returned (.bool true) ∧ Below w.heap.size w w' := by
  go_enter Tryz.func26, Tryz.ntmps26
  go_wp2_with fail
  refine (muxNew_any w.heap.size w (Nat.le_refl _)).mono ?_
  rintro e w1 ⟨x, rfl, hM1, hb1⟩
  have hz1 := hb1.size
  go_wp2_with fail
  refine (made_any 7 w1 (by decide)).mono ?_
  rintro e w2 ⟨hb2, hh⟩
  rcases hh with ⟨h0, _⟩ | ⟨_, a1, ma1, b1, mb1, T1, rfl, hT1, hlo1⟩
  · exact absurd h0 (by decide)
  have hM2 := hM1.below hb2
  have hz2 := hb2.size
  have hb2' := hb1.trans (hb2.mono hz1)
  go_wp2_with fail
  refine (made_any 7 w2 (by decide)).mono ?_
  rintro e w3 ⟨hb3, hh⟩
  rcases hh with ⟨h0, _⟩ | ⟨_, a2, ma2, b2, mb2, T2, rfl, hT2, hlo2⟩
  · exact absurd h0 (by decide)
  have hM3 := hM2.below hb3
  have hT13 := (hT1.below hb3).base hz1
  have hz3 := hb3.size
  have hb3' := hb2'.trans (hb3.mono hb2'.size)
  have hM1lo := hM1.lo
  obtain ⟨F1, G1, hP1, hS1⟩ := hT13.pair
  obtain ⟨F2, G2, hP2, hS2⟩ := (hT2.base hb2'.size).pair
  have hinv := hT13.inv
  have hadd := muxAdd_new w.heap.size x a1 ma1 [] 0 _ F1 (firstC 7) w3 hM3 hP1.dev hinv (fun y hy h => by have h1 := hM1lo y hy; have h2 := hlo1 y (hS1 y (.inl h)); omega) (fun r h => by cases h) (by decide)
  clear hM1 hM2 hb1 hb2 hb3 hT1 hT2 hb2'
  go_wp2_with fail
  refine hadd.mono ?_
  rintro e w4 ⟨rfl, s, hM4, hk4⟩
  have hD2 := hP2.dev.keepS hk4 (fun y hy h => by have h1 := hlo2 y (hS2 y (.inl hy)); omega)
  have hR1 := hP1.ref.keepS hk4 (fun y hy h => by have h1 := hlo1 y (hS1 y (.inr hy)); omega)
  have hz4 := hk4.size
  have hb4 := hb3'.trans (hk4.below (B := w.heap.size) (by omega) (fun y h => h.1))
  have htw := muxAdd_twice w.heap.size x a2 ma2 _ 0 _ F2 (firstC 7) w4 hM4 hD2 (i := 0) (r := ⟨a1, ma1, s, firstC 7, 0⟩) rfl rfl
  clear hadd hM3 hP1 hP2 hk4 hT13 hD2 hb3'
  go_wp2_with fail
  refine htw.mono ?_
  rintro e w5 ⟨rfl, k5, rfl⟩
  have hbd := belowN (Below.refl w4.heap.size w4) k5
  have hM5 := hM4.below hbd
  have hR5 := hR1.below hbd
  have hb5 := hb4.trans (hbd.mono hb4.size)
  have hM4lo := hM4.lo
  have hsz : (w4.drewN k5).heap.size = w4.heap.size := rfl
  have hfr := l13Frame_any w.heap.size b1 mb1 (firstC 7) G1 askC none 0 0 (w4.drewN k5) hR5 hinv ⟨by simp [askC], by simp [askC], by simp [askC]⟩ Reads.none_ (Nat.zero_le _) (by simp [askC]) (by simp [askC])
  rw [awake_frame] at hfr
  unfold opVal at hfr
  simp only [askC, Option.isSome_some, List.length_nil] at hfr
  have Hsz := Lib.hid hsz
  clear htw hM4 hR1 hb4 hbd hR5 hsz
  generalize w4.drewN k5 = W5 at *
  have hel := encode_small (UnitM.mk 1 7 0 0 0 (codeM 7).sign)
  have hpp := dreceive_p hinv (UnitM.mk 1 7 0 0 0 (codeM 7).sign).encode
  have hc0 := awake_code
  have ho0 := awake_out
  have hdc := awake_decode
  generalize (UnitM.mk 1 7 0 0 0 (codeM 7).sign).encode = f at *
  go_wp2_with fail
  refine hfr.mono ?_
  rintro e w6 ⟨v6, rfl, _, hv6, hb6⟩
  have hown6 := hv6 f rfl
  obtain ⟨A6, c6, rfl⟩ := own_slice hown6
  have hM6 := hM5.below hb6
  have hb6' := hb5.trans (hb6.mono hb5.size)
  have hg6 := hown6.lt
  have hrc := muxReceive_ok w.heap.size x _ 0 _ A6 f.length c6 W5.heap.size f w6 hM6 (i := 0) (r := ⟨a1, ma1, s, firstC 7, 0⟩) rfl (by show (0 : Int) ≤ 0 ∧ (0 : Int) < 4294967295; decide) (by show ([] : List Rec).length < 1073741800; decide) (by rw [hdc]) (by rw [hdc]; rfl) hown6 (fun y hy h => by have h1 := (hg6 y hy).1; have h2 := (hM4lo y h).2; have h3 := Hsz.out; omega) (by omega)
  have hz6 := hb6.size
  clear hfr hv6 hM5 hb5 hb6
  generalize (firstC 7).receive f = q at *
  obtain ⟨q1, q2, q3⟩ := q
  simp only at hc0 ho0 hpp
  subst hc0
  simp only [List.nil_append, List.set_cons_zero] at hrc
  go_wp2_with fail
  refine hrc.mono ?_
  rintro e w7 ⟨v7, rfl, hown7, hto7⟩
  obtain ⟨A7, c7, rfl⟩ := own_slice hown7
  have hM7 := hto7.is_
  have hb7 := hb6'.trans (hto7.keep.below (B := w.heap.size) hb6'.size (fun y hy => (hM6.lo y hy).1))
  have hcode1 : PRow.code ⟨a1, ma1, s, q1, 0 + 1⟩ = 7 := by show q1.p.code = 7; rw [hpp]; rfl
  have hse := muxSeen_any w.heap.size x _ 0 _ w7 hM7 (i := 0) rfl (by show (0 : Int) ≤ 0 + 1 ∧ (0 : Int) + 1 < 4294967296; decide)
  rw [hcode1] at hse
  have hcd := muxCodes_any w.heap.size x _ 0 _ w7 hM7 (by simp)
  have hs7 : sortI [7] = [7] := by simp [sortI]
  have ho1 : (0 : Int) < (q2.length : Int) := by omega
  rw [List.map_cons, hcode1, List.map_nil, hs7] at hcd
  have hcode0 : PRow.code ⟨a1, ma1, s, firstC 7, 0⟩ = 7 := rfl
  rw [hcode0]
  simp only [List.length_cons, List.length_nil] at hse hcd
  clear hM7 hto7 hown7 hrc hM6 hb6' hown6 hcode0 hcode1
  go_wp2_with fail
  refine hse.mono ?_
  rintro e w8 ⟨rfl, rfl⟩
  go_wp2_with fail
  refine hcd.mono ?_
  rintro e w9 ⟨v9, rfl, hown9, hb9⟩
  obtain ⟨A9, c9, rfl⟩ := own_slice hown9
  have hb9' := hb7.trans (hb9.mono hb7.size)
  have hbA := (Below.refl w9.heap.size w9).alloc (Nat.le_refl _) (.cells #[.int .u32 7] 34)
  have heq := equal32_any A9 (some ⟨w9.heap.size, 0, none⟩) 1 c9 1 (w9.heap.size + 1) [7] (w9.alloc (.cells #[.int .u32 7] 34)) ((Reads.of_own (own_below hown9 hbA)).more (by simp)) (Reads.of_blk (Blk.new w9 34 #[.int .u32 7]) (by omega) rfl) (by decide)
  have hbE := hb9'.trans (hbA.mono hb9'.size)
  clear hown9 hcd hse
  go_wp2_with fail
  refine heq.mono ?_
  rintro e wA ⟨rfl, kA, rfl⟩
  have hbF := hbE.trans ((belowN (Below.refl _ _) kA).mono hbE.size)
  go_wp2_with fail
  go_ret
  exact ⟨rfl, hbF⟩
end Go.Proofs.YtlldgfejcjnpkaaGreat
/- parapetlaw16's world: both muxes, and the lists of their devices. -/
namespace Go.Proofs.YtlldgfejcjnpkaaGreat
open Go.RowKit
set_option maxHeartbeats 10000000
set_option maxRecDepth 100000

def ptrs (l : List Nat) : List Value := l.map fun a => .pointer (some ⟨a, 0, none⟩)
/-- The law's own struct at z, its three lists. -/
structure TabAt (w : World) (z x y : Nat) (das mas bs : List Nat) (U : Nat → Prop) (vd vm vr : Value) : Prop where
  blk : Blk w z 78 #[.pointer (some ⟨x, 0, none⟩), .pointer (some ⟨y, 0, none⟩), vd, vm, vr]
  devs : w.ownsRow 0 31 1 vd das.length (ptrs das)
  mems : w.ownsRow 0 24 1 vm mas.length (ptrs mas)
  refs : w.ownsRow 0 38 1 vr bs.length (ptrs bs)
  uz : U z
  ud : ∀ g, vd.ownBlock = some g → U g
  um : ∀ g, vm.ownBlock = some g → U g
  ur : ∀ g, vr.ownBlock = some g → U g
def Tab (w : World) (z x y : Nat) (das mas bs : List Nat) (U : Nat → Prop) : Prop := ∃ vd vm vr, TabAt w z x y das mas bs U vd vm vr
theorem TabAt.keepS {w w' : World} {z x y : Nat} {das mas bs : List Nat} {U S : Nat → Prop} {vd vm vr : Value} (h : TabAt w z x y das mas bs U vd vm vr) (hk : Keep S w w') (hS : ∀ g, U g → ¬ S g) : TabAt w' z x y das mas bs U vd vm vr :=
  ⟨h.blk.keep hk (hS _ h.uz), ownsRow_keep h.devs hk (fun g hg => hS g (h.ud g hg)), ownsRow_keep h.mems hk (fun g hg => hS g (h.um g hg)), ownsRow_keep h.refs hk (fun g hg => hS g (h.ur g hg)), h.uz, h.ud, h.um, h.ur⟩
/-- Both muxes in one memory, each as it stands. -/
structure MuxH (B : Nat) (w : World) (z x y : Nat) (R : List PRow) (lost : Int) (Q : List QRow) (lq : Int) (F G U : Nat → Prop) : Prop where
  prog : MuxIs B w x R lost F
  ref : RMuxIs B w y Q lq G
  fg : ∀ k, F k → ¬ G k
  uf : ∀ k, U k → ¬ F k
  ug : ∀ k, U k → ¬ G k
  ulo : ∀ k, U k → B ≤ k ∧ k < w.heap.size
  tab : Tab w z x y (R.map PRow.a) (R.map PRow.ma) (Q.map QRow.b) U
section
variable {B : Nat} {w w' : World} {z x y : Nat} {R R' : List PRow} {lost lost' lq lq' : Int} {Q Q' : List QRow} {F G U : Nat → Prop}
theorem MuxH.onProg (h : MuxH B w z x y R lost Q lq F G U) (t : MuxTo B w x R' lost' F w') (ha : R'.map PRow.a = R.map PRow.a) (hm : R'.map PRow.ma = R.map PRow.ma) : MuxH B w' z x y R' lost' Q lq (grow F w w') G U where
  prog := t.is_
  ref := h.ref.keepS t.keep (fun g hg hf => h.fg g hf hg)
  fg := fun k hk hg => hk.elim (fun hk => h.fg k hk hg) (fun hk => by have := (h.ref.lo k hg).2; omega)
  uf := fun k hu hk => hk.elim (h.uf k hu) (fun hk => by have := (h.ulo k hu).2; omega)
  ug := h.ug
  ulo := fun k hu => by have := h.ulo k hu; have := t.keep.size; omega
  tab := by
    obtain ⟨vd, vm, vr, ht⟩ := h.tab
    rw [ha, hm]
    exact ⟨vd, vm, vr, ht.keepS t.keep (fun g hg hf => h.uf g hg hf)⟩
theorem MuxH.onRef (h : MuxH B w z x y R lost Q lq F G U) (t : RMuxTo B w y Q' lq' G w') (hb : Q'.map QRow.b = Q.map QRow.b) : MuxH B w' z x y R lost Q' lq' F (grow G w w') U where
  prog := h.prog.keepS t.keep (fun g hf hg => h.fg g hf hg)
  ref := t.is_
  fg := fun k hk hg => hg.elim (h.fg k hk) (fun hg => by have := (h.prog.lo k hk).2; omega)
  uf := h.uf
  ug := fun k hu hk => hk.elim (h.ug k hu) (fun hk => by have := (h.ulo k hu).2; omega)
  ulo := fun k hu => by have := h.ulo k hu; have := t.keep.size; omega
  tab := by
    obtain ⟨vd, vm, vr, ht⟩ := h.tab
    rw [hb]
    exact ⟨vd, vm, vr, ht.keepS t.keep (fun g hg hf => h.ug g hg hf)⟩
theorem MuxH.below (h : MuxH B w z x y R lost Q lq F G U) (hb : Below w.heap.size w w') : MuxH B w' z x y R lost Q lq F G U where
  prog := h.prog.below hb
  ref := h.ref.below hb
  fg := h.fg
  uf := h.uf
  ug := h.ug
  ulo := fun k hu => by have := h.ulo k hu; have := hb.size; omega
  tab := by
    obtain ⟨vd, vm, vr, ht⟩ := h.tab
    exact ⟨vd, vm, vr, ht.keepS (S := fun _ => False) (Keep.of_below hb) (fun _ _ h => h)⟩
end
/-- .. and alike: the i-th device and its count are the same; how far they have been used: at most k frames and as many ops. -/
structure MuxW (B : Nat) (w : World) (z x y : Nat) (R : List PRow) (Q : List QRow) (lost : Int) (F G U : Nat → Prop) (k : Nat) : Prop where
  h : MuxH B w z x y R lost Q lost F G U
  same : Q.map (fun q => (q.m, q.seen)) = R.map (fun r => (r.m, r.seen))
  len8 : R.length ≤ 8
  used : ∀ r ∈ R, 0 ≤ r.seen ∧ r.seen ≤ k ∧ r.m.log.length ≤ 4 * k
  lostk : 0 ≤ lost ∧ lost ≤ k
section
variable {B k : Nat} {w w' : World} {z x y : Nat} {R : List PRow} {lost : Int} {Q : List QRow} {F G U : Nat → Prop}
theorem MuxW.below (h : MuxW B w z x y R Q lost F G U k) (hb : Below w.heap.size w w') : MuxW B w' z x y R Q lost F G U k := ⟨h.h.below hb, h.same, h.len8, h.used, h.lostk⟩
theorem MuxW.qlen (h : MuxW B w z x y R Q lost F G U k) : Q.length = R.length := by have := congrArg List.length h.same; simpa using this
theorem MuxW.at_ (h : MuxW B w z x y R Q lost F G U k) {i : Nat} {r : PRow} (hr : R[i]? = some r) : ∃ q, Q[i]? = some q ∧ q.m = r.m ∧ q.seen = r.seen := by
  have hil := (List.getElem?_eq_some_iff.1 hr).1
  have hq : Q[i]? = some (Q[i]'(by rw [h.qlen]; exact hil)) := List.getElem?_eq_getElem _
  have h1 := congrArg (·[i]?) h.same
  simp only [List.getElem?_map, hq, hr, Option.map_some, Option.some.injEq, Prod.mk.injEq] at h1
  exact ⟨_, hq, h1.1, h1.2⟩
theorem MuxW.codes (h : MuxW B w z x y R Q lost F G U k) : Q.map QRow.code = R.map PRow.code := by
  have := congrArg (List.map fun p : DevM × Int => p.1.p.code) h.same
  rw [List.map_map, List.map_map] at this
  exact this
theorem MuxW.nodup (h : MuxW B w z x y R Q lost F G U k) : (R.map PRow.code).Nodup := by
  obtain ⟨⟨κ, mp, bl, hM, _⟩, _⟩ := h.h.prog
  exact hM.codes
theorem MuxW.ons (h : MuxW B w z x y R Q lost F G U k) : sortI ((Q.filter (fun q => q.m.see.on)).map QRow.code) = (sortI (R.map PRow.code)).filter (onAt R) := by
  rw [filter_codes]
  have h1 : ∀ (Q : List QRow) (R : List PRow), Q.map (fun q => (q.m, q.seen)) = R.map (fun r => (r.m, r.seen)) → (Q.filter (fun q => q.m.see.on)).map QRow.code = (R.filter (fun r => r.m.see.on)).map PRow.code := by
    intro Q
    induction Q with
    | nil => intro R hs; cases R with
      | nil => rfl
      | cons r R => simp at hs
    | cons q Q ih => intro R hs; cases R with
      | nil => simp at hs
      | cons r R =>
        simp only [List.map_cons, List.cons.injEq, Prod.mk.injEq] at hs
        rw [List.filter_cons, List.filter_cons, hs.1.1]
        cases r.m.see.on with
        | true => simp only [if_true, List.map_cons]; rw [ih R hs.2]; simp [QRow.code, PRow.code, hs.1.1]
        | false => simpa using ih R hs.2
  rw [h1 Q R h.same]
  congr 1
  have h2 : ∀ r ∈ R, onAt R r.code = r.m.see.on := fun r hr => by
    obtain ⟨i, hi⟩ := List.getElem?_of_mem hr
    exact onAt_row h.nodup hi
  rw [List.filter_map]
  congr 1
  exact List.filter_congr (fun r hr => by simp [h2 r hr])
end
end Go.Proofs.YtlldgfejcjnpkaaGreat
