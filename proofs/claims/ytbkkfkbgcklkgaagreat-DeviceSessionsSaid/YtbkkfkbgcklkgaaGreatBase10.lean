/- The base of the laws, part 10: contracts and plain lemmas, no statement. -/
import Derived.Test.YtbkkfkbgcklkgaaGreatBase9
import Derived.Deep.RegionHeld3
/- A device's fresh. -/
namespace Go.Proofs.YtbkkfkbgcklkgaaGreat
open Go.RowKit
set_option maxHeartbeats 10000000
set_option maxRecDepth 100000

/-- A device whose life is still to be laid. -/
structure DevPre (B : Nat) (w : World) (a mb : Nat) (p : ParM) (mx : Int) (L : List Rec) (M : MemM) (C : CellM) (κ : Nat → Option Nat) (c g : Nat) (x8 x9 x11 x12 x13 x14 x15 x16 x17 : Value) : Prop where
  blk : Blk w a 109 #[.int .u32 p.code, .int .i64 p.out, .int .i64 p.inn, .int .i64 p.watch, .int .u32 p.count, .pointer (some ⟨mb, 0, none⟩), .int .u32 mx, .pointer (some ⟨c, 0, none⟩), x8, x9, .pointer (some ⟨g, 0, none⟩), x11, x12, x13, x14, x15, x16, x17]
  log : DiagIs w g L (Of κ 3)
  mem : MemIs w mb M (Of κ 5)
  cell : CellIs w c mb C
  ka : Of κ 0 a
  kc : Of κ 6 c
  lo : ∀ x, κ x ≠ none → B ≤ x ∧ x < w.heap.size
theorem devFresh_any (B a mb : Nat) (p : ParM) (mx : Int) (L : List Rec) (M : MemM) (C : CellM) (κ : Nat → Option Nat) (c g : Nat) (x8 x9 x11 x12 x13 x14 x15 x16 x17 : Value) (w : World) (hp : p.lawful = true) (h : DevPre B w a mb p mx L M C κ c g x8 x9 x11 x12 x13 x14 x15 x16 x17) :
    Calls Tryz.prog 46 #[.pointer (some ⟨a, 0, none⟩)] w fun e w' => e = .returned (.tuple #[]) ∧ (∃ κ' d v val, DevAt B w' a mb { p := p, m := M, max := mx, cell := C, log := L, value := List.replicate p.inn.toNat 0 } κ' c d v g val ∧ (∀ x, κ' x ≠ none → κ x ≠ none ∨ (w.heap.size ≤ x ∧ x < w'.heap.size))) ∧ Keep (fun x => x = a) w w' := by
  have hlaw := hp
  simp [ParM.lawful] at hlaw
  obtain ⟨N, hN⟩ : ∃ N : Nat, p.inn = (N : Int) := ⟨p.inn.toNat, by omega⟩
  have hN8 : N ≤ 8 := by omega
  have HN := Lib.hid hN
  have hd := fun w => dogNew_any p.watch w (by omega) (by omega)
  have hv := fun w => valveNew_any p.out w (by omega) (by omega)
  have hmk := run_make_row' (P := Tryz.prog) 41 5 (.int .u8 0) 1 Tryz.underlying41 byte_info rfl .i64 .i64 N (by omega) (by omega)
  have hb := h.blk
  rw [hN] at hb
  have hlo := h.lo
  have hka := h.ka
  have hin : ∀ t x, Of κ t x → B ≤ x ∧ x < w.heap.size := fun t x hx => hlo x (by rw [show κ x = some t from hx]; simp)
  clear hlaw hN
  have hc := hb.cell
  go_enter Tryz.func46, Tryz.ntmps46
  go_wp2_with fail
  refine (hd _).mono ?_
  rintro e W1 ⟨rfl, hW⟩
  have hb1 : Blk W1 a 109 _ := hW ▸ hb.alloc _
  have hd1 : DogIs W1 w.heap.size p.watch 0 := hW ▸ Blk.new w _ _
  have hbe1 : Below w.heap.size w W1 := hW ▸ (Below.refl _ w).alloc (Nat.le_refl _) _
  have hz1 : Hid (W1.heap.size = w.heap.size + 1) := Lib.hid (by rw [hW]; simp)
  obtain ⟨d0, Hd0⟩ : ∃ e, Hid (e = w.heap.size) := ⟨_, Lib.hid rfl⟩
  rw [← Hd0.out] at hd1 ⊢
  clear hW hc
  have hc := hb1.cell
  have hf := hb1.frozen
  go_wp2_with fail
  have hb2 : Blk (W1.setCell ⟨a, 8, none⟩ (.pointer (some ⟨d0, 0, none⟩))) a 109 #[.int .u32 p.code, .int .i64 p.out, .int .i64 N, .int .i64 p.watch, .int .u32 p.count, .pointer (some ⟨mb, 0, none⟩), .int .u32 mx, .pointer (some ⟨c, 0, none⟩), .pointer (some ⟨d0, 0, none⟩), x9, .pointer (some ⟨g, 0, none⟩), x11, x12, x13, x14, x15, x16, x17] := by simpa using hb1.set_ 8 (.pointer (some ⟨d0, 0, none⟩))
  refine (hv _).mono ?_
  rintro e W2 ⟨v, rfl, hv2, hv3, hv4, hbe2⟩
  have hb3 := hb2.below hbe2 hb2.lt
  clear hc hf
  have hc := hb3.cell
  have hf := hb3.frozen
  have hb4 : Blk (W2.setCell ⟨a, 9, none⟩ (.pointer (some ⟨v, 0, none⟩))) a 109 #[.int .u32 p.code, .int .i64 p.out, .int .i64 N, .int .i64 p.watch, .int .u32 p.count, .pointer (some ⟨mb, 0, none⟩), .int .u32 mx, .pointer (some ⟨c, 0, none⟩), .pointer (some ⟨d0, 0, none⟩), .pointer (some ⟨v, 0, none⟩), .pointer (some ⟨g, 0, none⟩), x11, x12, x13, x14, x15, x16, x17] := by simpa using hb3.set_ 9 (.pointer (some ⟨v, 0, none⟩))
  have hcA := fun o => (hb4.alloc o).cell
  have hfA := fun o => (hb4.alloc o).frozen
  go_wp2_with fail
  have hsz3 : (W2.setCell ⟨a, 9, none⟩ (.pointer (some ⟨v, 0, none⟩))).heap.size = W2.heap.size := by simp [World.setCell]
  have hmade := own_made (W2.setCell ⟨a, 9, none⟩ (.pointer (some ⟨v, 0, none⟩))) N (by omega)
  rw [hsz3] at hmade
  have hkB : Keep (fun x => x = a) W2 (((((((((W2.setCell ⟨a, 9, none⟩ (.pointer (some ⟨v, 0, none⟩))).alloc (.cells (madeCells #[.int .u8 0] N) 5)).setCell ⟨a, 11, none⟩ (.int .i64 1)).setCell ⟨a, 12, none⟩ (.int .u32 0)).setCell ⟨a, 13, none⟩ (.int .u32 0)).setCell ⟨a, 14, none⟩ (.int .u32 0)).setCell ⟨a, 15, none⟩ (.int .i64 0)).setCell ⟨a, 16, none⟩ (.slice (some ⟨W2.heap.size, 0, none⟩) N N)).setCell ⟨a, 17, none⟩ (.bool false)) := ((((((((((Keep.refl (fun x => x = a) W2).setCell (p := ⟨a, 9, none⟩) (fun _ => rfl) (.pointer (some ⟨v, 0, none⟩))).alloc (.cells (madeCells #[.int .u8 0] N) 5)).setCell (p := ⟨a, 11, none⟩) (fun _ => rfl) (.int .i64 1)).setCell (p := ⟨a, 12, none⟩) (fun _ => rfl) (.int .u32 0)).setCell (p := ⟨a, 13, none⟩) (fun _ => rfl) (.int .u32 0)).setCell (p := ⟨a, 14, none⟩) (fun _ => rfl) (.int .u32 0)).setCell (p := ⟨a, 15, none⟩) (fun _ => rfl) (.int .i64 0)).setCell (p := ⟨a, 16, none⟩) (fun _ => rfl) (.slice (some ⟨W2.heap.size, 0, none⟩) N N)).setCell (p := ⟨a, 17, none⟩) (fun _ => rfl) (.bool false))
  have hkM : Keep (fun x => x = a) ((W2.setCell ⟨a, 9, none⟩ (.pointer (some ⟨v, 0, none⟩))).alloc (.cells (madeCells #[.int .u8 0] N) 5)) (((((((((W2.setCell ⟨a, 9, none⟩ (.pointer (some ⟨v, 0, none⟩))).alloc (.cells (madeCells #[.int .u8 0] N) 5)).setCell ⟨a, 11, none⟩ (.int .i64 1)).setCell ⟨a, 12, none⟩ (.int .u32 0)).setCell ⟨a, 13, none⟩ (.int .u32 0)).setCell ⟨a, 14, none⟩ (.int .u32 0)).setCell ⟨a, 15, none⟩ (.int .i64 0)).setCell ⟨a, 16, none⟩ (.slice (some ⟨W2.heap.size, 0, none⟩) N N)).setCell ⟨a, 17, none⟩ (.bool false)) := ((((((((Keep.refl (fun x => x = a) _).setCell (p := ⟨a, 11, none⟩) (fun _ => rfl) (.int .i64 1)).setCell (p := ⟨a, 12, none⟩) (fun _ => rfl) (.int .u32 0)).setCell (p := ⟨a, 13, none⟩) (fun _ => rfl) (.int .u32 0)).setCell (p := ⟨a, 14, none⟩) (fun _ => rfl) (.int .u32 0)).setCell (p := ⟨a, 15, none⟩) (fun _ => rfl) (.int .i64 0)).setCell (p := ⟨a, 16, none⟩) (fun _ => rfl) (.slice (some ⟨W2.heap.size, 0, none⟩) N N)).setCell (p := ⟨a, 17, none⟩) (fun _ => rfl) (.bool false))
  have hblk : Blk (((((((((W2.setCell ⟨a, 9, none⟩ (.pointer (some ⟨v, 0, none⟩))).alloc (.cells (madeCells #[.int .u8 0] N) 5)).setCell ⟨a, 11, none⟩ (.int .i64 1)).setCell ⟨a, 12, none⟩ (.int .u32 0)).setCell ⟨a, 13, none⟩ (.int .u32 0)).setCell ⟨a, 14, none⟩ (.int .u32 0)).setCell ⟨a, 15, none⟩ (.int .i64 0)).setCell ⟨a, 16, none⟩ (.slice (some ⟨W2.heap.size, 0, none⟩) N N)).setCell ⟨a, 17, none⟩ (.bool false)) a 109 (devCells { p := p, m := M, max := mx, cell := C, log := L, value := List.replicate p.inn.toNat 0 } mb c d0 v g (.slice (some ⟨W2.heap.size, 0, none⟩) N N)) := by
    have := ((((((((hb4.alloc (.cells (madeCells #[.int .u8 0] N) 5)).set_ 11 (.int .i64 1)).set_ 12 (.int .u32 0)).set_ 13 (.int .u32 0)).set_ 14 (.int .u32 0)).set_ 15 (.int .i64 0)).set_ 16 (.slice (some ⟨W2.heap.size, 0, none⟩) N N)).set_ 17 (.bool false))
    simpa [devCells, HN.out] using this
  have hz5 : (((((((((W2.setCell ⟨a, 9, none⟩ (.pointer (some ⟨v, 0, none⟩))).alloc (.cells (madeCells #[.int .u8 0] N) 5)).setCell ⟨a, 11, none⟩ (.int .i64 1)).setCell ⟨a, 12, none⟩ (.int .u32 0)).setCell ⟨a, 13, none⟩ (.int .u32 0)).setCell ⟨a, 14, none⟩ (.int .u32 0)).setCell ⟨a, 15, none⟩ (.int .i64 0)).setCell ⟨a, 16, none⟩ (.slice (some ⟨W2.heap.size, 0, none⟩) N N)).setCell ⟨a, 17, none⟩ (.bool false)).heap.size = W2.heap.size + 1 := by simp [World.setCell]
  generalize (((((((((W2.setCell ⟨a, 9, none⟩ (.pointer (some ⟨v, 0, none⟩))).alloc (.cells (madeCells #[.int .u8 0] N) 5)).setCell ⟨a, 11, none⟩ (.int .i64 1)).setCell ⟨a, 12, none⟩ (.int .u32 0)).setCell ⟨a, 13, none⟩ (.int .u32 0)).setCell ⟨a, 14, none⟩ (.int .u32 0)).setCell ⟨a, 15, none⟩ (.int .i64 0)).setCell ⟨a, 16, none⟩ (.slice (some ⟨W2.heap.size, 0, none⟩) N N)).setCell ⟨a, 17, none⟩ (.bool false)) = W5 at *
  first | go_end0 | refine bodyPost_ret (results_none rfl _ _ _) rfl ?_
  have ha := (hin 0 a hka).2
  have hs1 := hz1.out
  have hs2 := hbe2.size
  simp [World.setCell] at hs2
  have hkA : Keep (fun x => x = a) W1 W5 := (((Keep.refl (fun x => x = a) W1).setCell (p := ⟨a, 8, none⟩) (fun _ => rfl) _).andThen (S' := fun _ => False) (Keep.of_below hbe2) (fun _ _ h => h.elim)).andThen hkB (fun _ _ h => h)
  have hk : Keep (fun x => x = a) w W5 := (Keep.of_below hbe1).andThen hkA (fun _ _ h => h)
  have hd0 := Hd0.out
  have hsz1 : (W1.setCell ⟨a, 8, none⟩ (.pointer (some ⟨d0, 0, none⟩))).heap.size = W1.heap.size := by simp [World.setCell]
  rw [hsz1] at hv2 hv3
  let κ' : Nat → Option Nat := fun x => if x < w.heap.size then κ x else if x < W1.heap.size then some 1 else if x < W2.heap.size then some 2 else if x < W5.heap.size then some 4 else none
  have hold : ∀ t x, Of κ t x → Of κ' t x := fun t x hx => by
    show (if x < w.heap.size then κ x else _) = some t
    rw [if_pos (hin t x hx).2]
    exact hx
  have hnew : ∀ x, ¬ x < w.heap.size → κ' x = if x < W1.heap.size then some 1 else if x < W2.heap.size then some 2 else if x < W5.heap.size then some 4 else none := fun x hx => by
    show (if x < w.heap.size then κ x else _) = _
    rw [if_neg hx]
  have hna : ∀ t x, t ≠ 0 → Of κ t x → ¬ x = a := fun t x ht hx e => (hx.ne ht) (e ▸ hka)
  refine ⟨rfl, ⟨κ', d0, v, .slice (some ⟨W2.heap.size, 0, none⟩) N N, {
    blk := hblk
    dog := Blk.keep hd1 hkA (by omega)
    valve := hv2.keep hkB (fun x hx e => by omega) (fun x hx => by
      show κ' x = some 2
      rw [hnew x (by omega), if_neg (by omega), if_pos (by omega)])
    log := h.log.keep hk (fun x hx => hna 3 x (by decide) hx) (hold 3)
    value := by
      have := own_base (ownsRow_keep hmade hkM (fun x hx e => by simp [Value.ownBlock] at hx; omega)) (Nat.zero_le _)
      simpa [HN.out] using this
    mem := h.mem.keep hk (fun x hx => hna 5 x (by decide) hx) (hold 5)
    cell := Blk.keep h.cell hk (hna 6 _ (by decide) h.kc)
    ka := hold 0 a hka
    kd := by
      show κ' d0 = some 1
      rw [hnew d0 (by omega), if_pos (by omega)]
    kx := fun x hx => by
      simp [Value.ownBlock] at hx
      show κ' x = some 4
      rw [hnew x (by omega), if_neg (by omega), if_neg (by omega), if_pos (by omega)]
    kc := hold 6 c h.kc
    lo := fun x hx => ?_ }, fun x hx => ?_⟩, hk⟩
  · by_cases h1 : x < w.heap.size
    · have := hlo x (by
        have : κ' x = κ x := by show (if x < w.heap.size then κ x else _) = _; rw [if_pos h1]
        rwa [this] at hx)
      omega
    · rw [hnew x h1] at hx
      have hB := (hin 0 a hka).1
      by_cases h5 : x < W5.heap.size
      · omega
      · rw [if_neg (by omega), if_neg (by omega), if_neg h5] at hx
        exact absurd rfl hx
  · by_cases h1 : x < w.heap.size
    · left
      have : κ' x = κ x := by show (if x < w.heap.size then κ x else _) = _; rw [if_pos h1]
      rwa [this] at hx
    · right
      rw [hnew x h1] at hx
      by_cases h5 : x < W5.heap.size
      · exact ⟨by omega, h5⟩
      · rw [if_neg (by omega), if_neg (by omega), if_neg h5] at hx
        exact absurd rfl hx
end Go.Proofs.YtbkkfkbgcklkgaaGreat
/- A device's inner steps: trip, alive, leave, down. -/
namespace Go.Proofs.YtbkkfkbgcklkgaaGreat
open Go.RowKit
set_option maxHeartbeats 4000000
set_option maxRecDepth 100000

theorem Of.has {κ : Nat → Option Nat} {t x : Nat} (h : Of κ t x) : κ x ≠ none := by rw [show κ x = Option.some t from h]; simp
section
variable {B : Nat} {w w' : World} {a mb c d v g : Nat} {m m' : DevM} {κ : Nat → Option Nat} {val : Value} {F : Nat → Prop}
theorem DevAt.toValve (h : DevAt B w a mb m κ c d v g val) (hI : DevIs B w a mb m F) (hF : ∀ x, κ x ≠ none → F x) {V' : ValveM} {FV : Nat → Prop} (hv : ValveIs w' v V' m.p.out FV) (hk : Keep (Of κ 2) w w') (hFV : ∀ x, FV x → Of κ 2 x ∨ (w.heap.size ≤ x ∧ x < w'.heap.size)) :
    DevTo B w a mb { m with valve := V' } F w' := (h.onValve hv hk hFV).toIs hI (paint_sub hF) (hk.mono (fun x _ hx => hF x hx.has))
theorem DevAt.toLog (h : DevAt B w a mb m κ c d v g val) (hI : DevIs B w a mb m F) (hF : ∀ x, κ x ≠ none → F x) {L' : List Rec} {FL : Nat → Prop} (hl : DiagIs w' g L' FL) (hk : Keep (Of κ 3) w w') (hFL : ∀ x, FL x → Of κ 3 x ∨ (w.heap.size ≤ x ∧ x < w'.heap.size)) :
    DevTo B w a mb { m with log := L' } F w' := (h.onLog hl hk hFL).toIs hI (paint_sub hF) (hk.mono (fun x _ hx => hF x hx.has))
theorem DevAt.toDog (h : DevAt B w a mb m κ c d v g val) (hI : DevIs B w a mb m F) (hF : ∀ x, κ x ≠ none → F x) {s' : Int} (hd : DogIs w' d m.p.watch s') (hk : Keep (fun x => x = d) w w') :
    DevTo B w a mb { m with since := s' } F w' := (h.onDog hd hk).toIs hI (paint_sub hF) (hk.mono (fun x _ hx => hF x (hx ▸ h.kd.has)))
theorem DevAt.toMem (h : DevAt B w a mb m κ c d v g val) (hI : DevIs B w a mb m F) (hF : ∀ x, κ x ≠ none → F x) {M' : MemM} (hm : MemTo w mb M' (Of κ 5) w') :
    DevTo B w a mb { m with m := M' } F w' := (h.onMem hm).toIs hI (paint_sub hF) (hm.keep.mono (fun x _ hx => hF x hx.has))
theorem DevAt.toUpd (h : DevAt B w a mb m κ c d v g val) (hI : DevIs B w a mb m F) (hF : ∀ x, κ x ≠ none → F x) (hk : Keep (fun x => x = a) w w') (hs : w'.heap.size = w.heap.size) (hb : Blk w' a 109 (devCells m' mb c d v g val)) (e1 : m'.p = m.p) (e2 : m'.since = m.since) (e3 : m'.valve = m.valve) (e4 : m'.log = m.log) (e5 : m'.value = m.value) (e6 : m'.m = m.m) (e7 : m'.cell = m.cell) :
    DevTo B w a mb m' F w' := (h.upd hk hs hb e1 e2 e3 e4 e5 e6 e7).toIs hI (fun x hx => .inl (hF x hx)) (hk.mono (fun x _ hx => hx ▸ hI.Fa))
theorem DevAt.toCell (h : DevAt B w a mb m κ c d v g val) (hI : DevIs B w a mb m F) (hF : ∀ x, κ x ≠ none → F x) {M' : MemM} {C' : CellM} (hm : MemIs w' mb M' (Of κ 5)) (hc : CellIs w' c mb C') (hk : Keep (fun x => Of κ 5 x ∨ x = c) w w') :
    DevTo B w a mb { m with m := M', cell := C' } F w' := (h.onCell hm hc hk).toIs hI (fun x hx => .inl (hF x hx)) (hk.mono (fun x _ hx => hx.elim (fun hx => hF x hx.has) (fun hx => hF x (hx ▸ h.kc.has))))
theorem DevIs.drew (h : DevIs B w a mb m F) : DevIs B w.drew a mb m F := h.keepS (S := fun _ => False) (Keep.refl _ w).drew (fun _ _ h => h)
theorem DevTo.drew (h : DevTo B w a mb m F w') : DevTo B w a mb m F w'.drew := ⟨h.is_.drew, h.keep.drew⟩
theorem keepA {x : Value} {i : Nat} (w : World) : Keep (fun x => x = a) w (w.setCell ⟨a, i, none⟩ x) := (Keep.refl (fun x => x = a) w).setCell (p := ⟨a, i, none⟩) (fun _ => rfl) x
end
theorem devTrip_any (B a mb : Nat) (m : DevM) (F : Nat → Prop) (code : Int) (w : World) (hcode : code ≠ 0) (hI : DevIs B w a mb m F) (hlen : m.log.length < 1073741823) :
    Calls Tryz.prog 76 #[.pointer (some ⟨a, 0, none⟩), .int .i64 code] w fun e w' => e = .returned (.tuple #[]) ∧ DevTo B w a mb (m.trip code) F w' := by
  have hI0 := hI
  obtain ⟨⟨κ, c, d, v, g, val, hH, hF⟩, hlo⟩ := hI
  have hc := hH.blk.cell
  unfold devCells at hc
  have hcod : (code == 0) = false := by simpa using hcode
  cases htr : (m.valve.trip code).2 with
  | false =>
    have e1 : m.trip code = { m with valve := (m.valve.trip code).1 } := by unfold DevM.trip; simp only [htr]; rfl
    rw [e1]
    go_enter Tryz.func76, Tryz.ntmps76
    go_wp2_with fail
    refine (valveTrip_any v m.valve _ (Of κ 2) code w hcode hH.valve).mono ?_
    rintro e w1 ⟨rfl, hv, hk⟩
    rw [htr]
    go_wp2_with fail
    go_end0
    exact ⟨rfl, hH.toValve hI0 hF hv hk (fun x hx => .inl hx)⟩
  | true =>
    have e1 : m.trip code = { m with valve := (m.valve.trip code).1, log := noteM m.log code m.session m.number } := by unfold DevM.trip; simp only [htr]; rfl
    rw [e1]
    go_enter Tryz.func76, Tryz.ntmps76
    go_wp2_with fail
    refine (valveTrip_any v m.valve _ (Of κ 2) code w hcode hH.valve).mono ?_
    rintro e w1 ⟨rfl, hv, hk⟩
    rw [htr]
    have t1 := (hH.toValve hI0 hF hv hk (fun x hx => .inl hx)).drew
    have hI1 := t1.is_
    have h1 := (hH.onValve hv hk (fun x hx => .inl hx)).drew
    have hF1 : ∀ x, paint κ 2 w w1 x ≠ none → grow F w w1.drew x := paint_sub hF
    have hlog := h1.log
    have hb1 := h1.blk
    clear hc
    have hc := hb1.cell
    unfold devCells at hc
    simp only at hc
    have hla : ¬ Of (paint κ 2 w w1) 3 a := h1.ka.ne (by decide)
    go_wp2_with fail
    go_region_held3 (fun w' => w'.cell? ⟨a, 10, none⟩ = some (.pointer (some ⟨g, 0, none⟩)) ∧ w'.cell? ⟨a, 12, none⟩ = some (.int .u32 m.session) ∧ w'.cell? ⟨a, 13, none⟩ = some (.int .u32 m.number)) (exact ⟨(hb1.cell 10).trans rfl, (hb1.cell 12).trans rfl, (hb1.cell 13).trans rfl⟩) (first
      | (go_at_call 50; refine (diagNote_any g m.log _ code m.session m.number _ hcod hlog hlen).mono ?_; rintro e W ⟨rfl, hl2, hk2⟩; replace hb1 := hb1.keep hk2 hla))
    go_wp2_with fail
    go_end0
    have t2 := h1.toLog hI1 hF1 hl2 hk2 (fun x hx => hx)
    exact ⟨rfl, DevTo.trans hI0 t1 t2⟩
theorem devAlive_any (B a mb : Nat) (m : DevM) (F : Nat → Prop) (w : World) (hI : DevIs B w a mb m F) :
    Calls Tryz.prog 166 #[.pointer (some ⟨a, 0, none⟩)] w fun e w' => e = .returned (.tuple #[]) ∧ DevTo B w a mb m.alive F w' := by
  have hI0 := hI
  obtain ⟨⟨κ, c, d, v, g, val, hH, hF⟩, hlo⟩ := hI
  have hb := hH.blk
  have hc := hb.cell
  have hf := hb.frozen
  unfold devCells at hc
  have hbu : Blk (w.setCell ⟨a, 15, none⟩ (.int .i64 0)) a 109 (devCells { m with odd := 0 } mb c d v g val) := by simpa [devCells] using hb.set_ 15 (.int .i64 0)
  have h1 := hH.upd (keepA w) (by simp [World.setCell]) hbu rfl rfl rfl rfl rfl rfl rfl
  have t1 := hH.toUpd hI0 hF (keepA w) (by simp [World.setCell]) hbu rfl rfl rfl rfl rfl rfl rfl
  go_enter Tryz.func166, Tryz.ntmps166
  go_wp2_with fail
  refine (dogFeed_any d _ _ _ h1.dog).mono ?_
  rintro e w2 ⟨rfl, hd2, hW⟩
  have hk2 : Keep (fun x => x = d) _ w2 := hW ▸ (Keep.refl (fun x => x = d) _).setCell (p := ⟨d, 1, none⟩) (fun _ => rfl) _
  have h2 := h1.onDog hd2 hk2
  have t2 := h1.toDog t1.is_ (fun x hx => .inl (hF x hx)) hd2 hk2
  have t12 := DevTo.trans hI0 t1 t2
  clear hW hc hf hd2
  have hc := h2.blk.cell
  unfold devCells at hc
  simp only at hc
  go_wp2_with fail
  refine (valveFresh_any v m.valve _ _ w2 h2.valve).mono ?_
  rintro e w3 ⟨rfl, hv3, hk3, hs3⟩
  have hF2 : ∀ x, paint κ 1 (w.setCell ⟨a, 15, none⟩ (.int .i64 0)) w2 x ≠ none → grow F w w2 x := fun x hx => grow_grow (F := F) (by simp [World.setCell]) hk2.size x (paint_sub (fun y hy => .inl (hF y hy)) x hx)
  have t3 := h2.toValve t12.is_ hF2 hv3 hk3 (fun x hx => .inl hx)
  clear hs3
  go_wp2_with fail
  go_end0
  exact ⟨rfl, DevTo.trans hI0 t12 t3⟩
theorem devLeave_any (B a mb : Nat) (m : DevM) (F : Nat → Prop) (s : Int) (w : World) (hI : DevIs B w a mb m F) :
    Calls Tryz.prog 182 #[.pointer (some ⟨a, 0, none⟩), .int .i64 s] w fun e w' => e = .returned (.tuple #[]) ∧ DevTo B w a mb (m.leave s) F w' := by
  have hI0 := hI
  obtain ⟨⟨κ, c, d, v, g, val, hH, hF⟩, hlo⟩ := hI
  have hc := hH.blk.cell
  unfold devCells at hc
  go_enter Tryz.func182, Tryz.ntmps182
  go_wp2_with fail
  refine (valveRun_any v m.valve _ _ false w hH.valve).mono ?_
  rintro e w1 ⟨rfl, hv1, hk1, hs1⟩
  have t1 := hH.toValve hI0 hF hv1 hk1 (fun x hx => .inl hx)
  have h1 := hH.onValve hv1 hk1 (fun x hx => .inl hx)
  have hb1 := h1.blk
  clear hc hs1
  have hc := hb1.cell
  have hf := hb1.frozen
  unfold devCells at hc
  simp only at hc
  go_wp2_with fail
  go_end0
  have t2 : DevTo B w1 a mb (m.leave s) (grow F w w1) (((((w1.setCell ⟨a, 11, none⟩ (.int .i64 s)).setCell ⟨a, 12, none⟩ (.int .u32 0)).setCell ⟨a, 13, none⟩ (.int .u32 0)).setCell ⟨a, 14, none⟩ (.int .u32 0)).setCell ⟨a, 15, none⟩ (.int .i64 0)) :=
    h1.toUpd t1.is_ (paint_sub hF) (((((Keep.refl (fun x => x = a) w1).setCell (p := ⟨a, 11, none⟩) (fun _ => rfl) _).setCell (p := ⟨a, 12, none⟩) (fun _ => rfl) _).setCell (p := ⟨a, 13, none⟩) (fun _ => rfl) _).setCell (p := ⟨a, 14, none⟩) (fun _ => rfl) _ |>.setCell (p := ⟨a, 15, none⟩) (fun _ => rfl) _) (by simp [World.setCell])
      (by simpa [devCells, DevM.leave] using ((((hb1.set_ 11 (.int .i64 s)).set_ 12 (.int .u32 0)).set_ 13 (.int .u32 0)).set_ 14 (.int .u32 0)).set_ 15 (.int .i64 0)) rfl rfl rfl rfl rfl rfl rfl
  exact ⟨rfl, DevTo.trans hI0 t1 t2⟩
/-- A device whose life is laid anew. -/
theorem devFreshTo_any (B a mb : Nat) (m : DevM) (F : Nat → Prop) (w : World) (hI : DevIs B w a mb m F) (hp : m.p.lawful = true) :
    Calls Tryz.prog 46 #[.pointer (some ⟨a, 0, none⟩)] w fun e w' => e = .returned (.tuple #[]) ∧ DevTo B w a mb (m.life 1) F w' := by
  have hI0 := hI
  obtain ⟨⟨κ, c, d, v, g, val, hH, hF⟩, hlo⟩ := hI
  refine (devFresh_any B a mb m.p m.max m.log m.m m.cell κ c g _ _ _ _ _ _ _ _ _ w hp ⟨hH.blk, hH.log, hH.mem, hH.cell, hH.ka, hH.kc, hH.lo⟩).mono ?_
  rintro e w' ⟨rfl, ⟨κ', d', v', val', h', hF'⟩, hk⟩
  exact ⟨rfl, h'.toIs hI0 (fun x hx => (hF' x hx).imp (hF x) id) (hk.mono (fun x _ hx => hx ▸ hI0.Fa))⟩
theorem devDown_any (B a mb : Nat) (m : DevM) (F : Nat → Prop) (w : World) (hI : DevIs B w a mb m F) (hp : m.p.lawful = true) :
    Calls Tryz.prog 65 #[.pointer (some ⟨a, 0, none⟩)] w fun e w' => e = .returned (.tuple #[]) ∧ DevTo B w a mb (m.life 6) F w' := by
  go_enter Tryz.func65, Tryz.ntmps65
  go_wp2_with fail
  refine (devFreshTo_any B a mb m F w hI hp).mono ?_
  rintro e w1 ⟨rfl, t1⟩
  have hI1 := t1.is_
  obtain ⟨⟨κ, c, d, v, g, val, h1, hF⟩, hlo⟩ := t1.is_
  have hb1 := h1.blk
  have hc := hb1.cell
  have hf := hb1.frozen
  unfold devCells at hc
  go_wp2_with fail
  go_end0
  have t2 : DevTo B w1 a mb (m.life 6) (grow F w w1) (w1.setCell ⟨a, 11, none⟩ (.int .i64 6)) :=
    h1.toUpd hI1 hF (keepA w1) (by simp [World.setCell]) (by simpa [devCells, DevM.life] using hb1.set_ 11 (.int .i64 6)) rfl rfl rfl rfl rfl rfl rfl
  exact ⟨rfl, DevTo.trans hI t1 t2⟩
end Go.Proofs.YtbkkfkbgcklkgaaGreat
/- What always holds of a device: plain. -/
namespace Go.Proofs.YtbkkfkbgcklkgaaGreat

theorem writeSlot_len (m : MemM) (k : Nat) (x : Int) : (m.writeSlot k x).1.b.length = m.b.length := by
  have key : ∀ (l : List (Nat × UInt8)) (m : MemM), (m.writeAll l).1.b.length = m.b.length := by
    intro l
    induction l with
    | nil => intro m; rfl
    | cons x r ih =>
      intro m
      have hw : (m.write x.1 x.2).1.b.length = m.b.length := by
        rcases m.write_b x.1 x.2 with e | e <;> rw [e]
        exact List.length_set
      unfold MemM.writeAll
      split
      · exact hw
      · rw [ih, hw]
  exact key _ _
theorem mend_len (m : MemM) (k : Nat) : (m.mend k).1.b.length = m.b.length := by
  unfold MemM.mend
  split
  · exact writeSlot_len _ _ _
  split
  · rcases m.write_b (5 * k) 0 with e | e <;> rw [e]
    exact List.length_set
  · rfl
theorem openM_len (m : MemM) (mx : Int) : (openM m mx).1.b.length = m.b.length := by
  unfold openM
  split
  · rfl
  split
  · rfl
  simp only
  split
  · exact mend_len m 0
  split
  · exact (mend_len _ 1).trans (mend_len m 0)
  · exact (mend_len _ 1).trans (mend_len m 0)
theorem top_range (m : MemM) : 0 ≤ m.top ∧ m.top < 4294967296 := by
  have h0 := m.word_range 0
  have h1 := m.word_range 1
  unfold MemM.top
  simp only
  split <;> split <;> omega
/-- What is opened, where it is. -/
theorem openM_some {m : MemM} {mx : Int} {k : CellM} (h : (openM m mx).2.1 = some k) : k.max = mx ∧ (0 ≤ k.value ∧ k.value < 4294967296) ∧ (openM m mx).2.2 = 0 := by
  have ht := top_range m
  unfold openM at h ⊢
  split at h
  · cases h
  rename_i h1
  rw [if_neg h1]
  split at h
  · cases h
  rename_i h2
  rw [if_neg h2]
  simp only at h ⊢
  split at h
  · cases h
  rename_i h3
  rw [if_neg h3]
  split at h
  · cases h
  rename_i h4
  rw [if_neg h4]
  simp only [Option.some.injEq] at h
  subst h
  exact ⟨rfl, ht, rfl⟩
theorem openM_none {m : MemM} {mx : Int} (h : (openM m mx).2.1 = none) : (openM m mx).2.2 ≠ 0 := by
  unfold openM at h ⊢
  split
  · simp
  rename_i h1
  rw [if_neg h1] at h
  split
  · simp
  rename_i h2
  rw [if_neg h2] at h
  simp only at h ⊢
  split
  · rename_i h3; exact h3
  rename_i h3
  rw [if_neg h3] at h
  split
  · rename_i h4; exact h4
  rename_i h4
  rw [if_neg h4] at h
  simp at h
theorem next_form (c : CellM) (m : MemM) : c.next m = (c, m, 0, 70) ∨ (c.max ≤ c.value ∧ c.next m = (c, m, 0, 80)) ∨ (c.value < c.max ∧ ∃ k, c.next m = ({ c with dead := true }, (m.writeSlot k (c.value + 1)).1, 0, 70) ∨ c.next m = ({ c with value := c.value + 1 }, (m.writeSlot k (c.value + 1)).1, c.value + 1, 0)) := by
  unfold CellM.next
  by_cases h0 : (c.dead || m.off) = true
  · rw [if_pos h0]; exact .inl rfl
  · rw [if_neg h0]
    by_cases h1 : c.max ≤ c.value
    · rw [if_pos h1]; exact .inr (.inl ⟨h1, rfl⟩)
    · rw [if_neg h1]
      refine .inr (.inr ⟨by omega, (if m.holds 0 && (!m.holds 1 || decide (m.word 1 < m.word 0)) then 1 else 0), ?_⟩)
      generalize (if m.holds 0 && (!m.holds 1 || decide (m.word 1 < m.word 0)) then 1 else 0) = k
      simp only
      by_cases h2 : (m.writeSlot k (c.value + 1)).2 ≠ 0
      · rw [if_pos h2]; exact .inl rfl
      · rw [if_neg h2]; exact .inr rfl
theorem next_len (c : CellM) (m : MemM) : (c.next m).2.1.b.length = m.b.length := by
  rcases next_form c m with e | ⟨_, e⟩ | ⟨_, k, e | e⟩ <;> rw [e]
  · exact writeSlot_len _ _ _
  · exact writeSlot_len _ _ _
theorem next_cell (c : CellM) (m : MemM) (hv : 0 ≤ c.value) (hm : c.max < 4294967296) (hv2 : c.value < 4294967296) :
    (c.next m).1.max = c.max ∧ (0 ≤ (c.next m).1.value ∧ (c.next m).1.value < 4294967296) ∧ (0 ≤ (c.next m).2.2.1 ∧ (c.next m).2.2.1 < 4294967296) := by
  rcases next_form c m with e | ⟨_, e⟩ | ⟨_, k, e | e⟩ <;> rw [e] <;> dsimp only <;> omega
theorem next_err (c : CellM) (m : MemM) : (c.next m).2.2.2 = 0 ∨ (c.next m).2.2.2 = 70 ∨ (c.next m).2.2.2 = 80 := by
  rcases next_form c m with e | ⟨_, e⟩ | ⟨_, k, e | e⟩ <;> rw [e] <;> simp
/-- What always holds of a device. -/
structure DevM.Inv (m : DevM) : Prop where
  pok : m.p.Ok
  plaw : m.p.lawful = true
  mx : 0 ≤ m.max ∧ m.max < 4294967296
  session : 0 ≤ m.session ∧ m.session < 4294967296
  number : 0 ≤ m.number ∧ m.number < 4294967296
  sent : 0 ≤ m.sent ∧ m.sent ≤ m.number
  state : 1 ≤ m.state ∧ m.state ≤ 6
  odd : 0 ≤ m.odd ∧ m.odd ≤ 3
  since : 0 ≤ m.since ∧ m.since ≤ m.p.watch
  value : (m.value.length : Int) = m.p.inn
  vval : ∀ b, m.valve.value = some b → (b.length : Int) = m.p.out
  cmax : m.cell.max = m.max
  cval : 0 ≤ m.cell.value ∧ m.cell.value < 4294967296
  mem : 10 ≤ m.m.b.length
  fr : m.valve.fresh = true → m.valve.latched ≠ 0
namespace DevM.Inv
variable {m : DevM}
theorem p8 (h : m.Inv) : (1 ≤ m.p.out ∧ m.p.out ≤ 8) ∧ (1 ≤ m.p.inn ∧ m.p.inn ≤ 8) ∧ (1 ≤ m.p.watch ∧ m.p.watch ≤ 1048576) ∧ 2 ≤ m.p.count ∧ m.p.count < 4294967296 := by
  have hl := h.plaw
  have := h.pok.count
  simp [ParM.lawful] at hl
  omega
theorem trip (h : m.Inv) (code : Int) : (m.trip code).Inv := { h with vval := valve_trip_val h.vval, fr := fr_trip h.fr }
theorem alive (h : m.Inv) : m.alive.Inv := { h with odd := by simp [DevM.alive], since := by have := h.p8; simp only [DevM.alive]; omega, fr := fr_come _ }
theorem run (h : m.Inv) (on : Bool) : (m.run on).Inv := { h with vval := valve_run_val h.vval, fr := fr_run h.fr }
theorem toSt (h : m.Inv) (s : Int) (hs : 1 ≤ s ∧ s ≤ 6) : ({ m with state := s } : DevM).Inv := { h with state := hs }
theorem leave (h : m.Inv) (s : Int) (hs : 1 ≤ s ∧ s ≤ 6) : (m.leave s).Inv :=
  { h with state := hs, session := by simp [DevM.leave], number := by simp [DevM.leave], sent := by simp [DevM.leave], odd := by simp [DevM.leave], vval := valve_run_val h.vval, fr := fr_run h.fr }
theorem log (h : m.Inv) (l : List Rec) : ({ m with log := l } : DevM).Inv := { h with }
theorem made {p : ParM} {M : MemM} {mx : Int} {C : CellM} {L : List Rec} {s : Int} (hs : 1 ≤ s ∧ s ≤ 6) (hp : p.Ok) (hl : p.lawful = true) (hmx : 0 ≤ mx ∧ mx < 4294967296) (hc : C.max = mx) (hv : 0 ≤ C.value ∧ C.value < 4294967296) (hm : 10 ≤ M.b.length) :
    ({ p := p, m := M, max := mx, cell := C, log := L, state := s, value := List.replicate p.inn.toNat 0 } : DevM).Inv := by
  have hl' := hl
  simp [ParM.lawful] at hl'
  exact { pok := hp, plaw := hl, mx := hmx, session := by simp, number := by simp, sent := by simp, state := hs, odd := by simp, since := by simp; omega, value := by simp; omega, vval := fun b hb => (by cases hb), cmax := hc, cval := hv, mem := hm, fr := fun h => (by cases h) }
theorem life (h : m.Inv) (s : Int) (hs : 1 ≤ s ∧ s ≤ 6) : (m.life s).Inv := made hs h.pok h.plaw h.mx h.cmax h.cval h.mem
theorem strange (h : m.Inv) : m.strange.1.Inv := by
  have ho := h.odd
  unfold DevM.strange
  split
  · exact h
  · simp only
    split
    · exact { h with odd := by simp only; omega }
    · split
      · have h1 := (h.trip 131).leave 1 (by omega)
        exact h1
      · have h1 := h.leave 1 (by omega)
        exact h1
theorem odds (h : m.Inv) (e : Int) : (m.odds e).1.Inv := h.strange
theorem begin_ (h : m.Inv) : m.begin_.1.Inv := by
  have hc := next_cell m.cell m.m h.cval.1 (by rw [h.cmax]; exact h.mx.2) h.cval.2
  have hl := next_len m.cell m.m
  have hcm := h.cmax
  have hme := h.mem
  unfold DevM.begin_
  generalize m.cell.next m.m = r at *
  obtain ⟨c, m', s, e⟩ := r
  simp only at *
  have hg : ({ m with cell := c, m := m' } : DevM).Inv := { h with cmax := by simp only; omega, cval := hc.2.1, mem := by simp only; omega }
  split
  · exact (hg.trip 80).leave 5 (by omega)
  · split
    · exact hg.life 6 (by omega)
    · exact { hg.leave 2 (by omega) with session := hc.2.2 }
theorem wish (h : m.Inv) : m.wish.1.Inv := by
  unfold DevM.wish
  split
  · simp only
    split
    · exact h.strange.begin_
    · split
      · exact h.strange
      · exact h.strange
  · exact h.begin_
theorem take (h : m.Inv) {u : UnitM} (hn : 0 ≤ u.number ∧ u.number < 4294967296) : (m.take u).1.Inv := by
  have hp := h.p8
  have hs := h.sent
  unfold DevM.take
  split
  · split
    · exact h.wish
    · exact h.odds _
  split
  · split
    · exact h.odds _
    · simp only
      split
      · exact (h.toSt 3 (by omega)).alive
      · exact h
  split
  · simp only
    split
    · exact ((h.toSt 4 (by omega)).run true).alive
    · exact h
  split
  · rename_i hc
    have h1 : ({ m with number := u.number } : DevM).Inv := { h with number := hn, sent := by simp only; omega }
    have h2 := h1.alive
    refine { h2 with sent := ?_, vval := ?_, fr := fr_take (V := (DevM.alive _).valve.hold _) h2.fr }
    · show 0 ≤ m.sent + 1 ∧ m.sent + 1 ≤ u.number
      omega
    · intro b hb
      simp only [ValveM.take] at hb
      split at hb
      · simp only [Option.some.injEq] at hb
        subst hb
        exact hc.2.2.2.2.1
      · exact h2.vval b hb
  split
  · rename_i hc
    have h1 : ({ m with number := u.number } : DevM).Inv := { h with number := hn, sent := by simp only; omega }
    have h2 := h1.alive.trip 80
    have h3 : ({ (({ m with number := u.number } : DevM).alive).trip 80 with sent := m.p.count } : DevM).Inv := { h2 with sent := by show 0 ≤ m.p.count ∧ m.p.count ≤ u.number; omega }
    exact (h3.run false).toSt 5 (by omega)
  · exact h.odds _
theorem read (h : m.Inv) (l : List UInt8) : (m.read l).1.Inv := by
  have hd := decode_ok l
  unfold DevM.read
  simp only
  split
  · exact h
  split
  · exact h
  split
  · exact h
  · exact h.take hd.2.1
theorem receive (h : m.Inv) (l : List UInt8) : (m.receive l).1.Inv := by
  unfold DevM.receive
  split
  · exact h
  · simp only
    split
    · exact h.read l
    · exact (h.read l).log _
theorem write (h : m.Inv) (b : List UInt8) (hold : Bool) : (m.write b hold).1.Inv := by
  unfold DevM.write
  split
  · exact h
  split
  · exact h
  · rename_i hq
    exact { h with value := by simpa using hq }
theorem tick (h : m.Inv) (n : Int) : (m.tick n).1.Inv := by
  have hs := h.since
  unfold DevM.tick
  split
  · exact h
  split
  · exact h
  · have h1 : ({ m with since := (ticksM m.p.watch m.since n).1 } : DevM).Inv := by
      refine { h with since := ?_ }
      simp only
      unfold ticksM
      split
      · exact hs
      · split
        · simp only; omega
        · simp only; omega
    simp only
    split
    · exact h1.trip 100
    · exact h1
theorem ack (h : m.Inv) : m.ack.1.Inv := by
  unfold DevM.ack
  split
  · exact h
  split
  · refine { h with vval := ?_, fr := fr_ack h.fr }
    intro b hb
    unfold ValveM.ack at hb
    split at hb <;> exact h.vval b hb
  · exact h
theorem arm (h : m.Inv) (n : Int) : ({ m with m := (m.m.arm n).1 } : DevM).Inv := { h with mem := by show 10 ≤ (m.m.arm n).1.b.length; unfold MemM.arm; split <;> exact h.mem }
theorem reset (h : m.Inv) (n : Int) : (m.reset n).1.Inv := by
  unfold DevM.reset
  split
  · exact h
  · have hb : (if 0 < n then (m.m.on.arm (n - 1)).1 else m.m.on).b.length = m.m.b.length := by
      split
      · unfold MemM.arm; split <;> rfl
      · rfl
    have hl := openM_len (if 0 < n then (m.m.on.arm (n - 1)).1 else m.m.on) m.max
    have ho := fun k h => openM_some (m := (if 0 < n then (m.m.on.arm (n - 1)).1 else m.m.on)) (mx := m.max) (k := k) h
    have hme := h.mem
    simp only
    generalize openM (if 0 < n then (m.m.on.arm (n - 1)).1 else m.m.on) m.max = r at *
    obtain ⟨m', k, e⟩ := r
    simp only at *
    cases k with
    | none => exact { h.life 6 (by omega) with mem := by simp only; omega }
    | some k =>
      obtain ⟨h1, h2, h3⟩ := ho k rfl
      exact { h.life 1 (by omega) with cmax := h1, cval := h2, mem := by simp only; omega }
end DevM.Inv
theorem DevM.inv_new {p : ParM} {m m' : MemM} {mx e : Int} {d : DevM} (hp : p.Ok) (hmx : 0 ≤ mx ∧ mx < 4294967296) (h : DevM.new p m mx = (m', some d, e)) : d.Inv ∧ e = 0 := by
  unfold DevM.new at h
  split at h
  · simp at h
  rename_i hl
  simp only [Bool.not_eq_true, Bool.not_eq_false'] at hl
  have hln := openM_len m mx
  have ho := fun k h => openM_some (m := m) (mx := mx) (k := k) h
  have h10 : (∃ k, (openM m mx).2.1 = some k) → 10 ≤ m.b.length := by
    rintro ⟨k, hk⟩
    unfold openM at hk
    split at hk
    · cases hk
    · omega
  generalize openM m mx = r at *
  obtain ⟨m1, k, e1⟩ := r
  simp only at *
  cases k with
  | none => simp at h
  | some k =>
    simp only [Prod.mk.injEq, Option.some.injEq] at h
    obtain ⟨rfl, rfl, rfl⟩ := h
    obtain ⟨h1, h2, h3⟩ := ho k rfl
    exact ⟨.made (by omega) hp hl hmx h1 h2 (by rw [hln]; exact h10 ⟨k, rfl⟩), rfl⟩
end Go.Proofs.YtbkkfkbgcklkgaaGreat
/- A device's flags, reply, offer, stuck, odds, begin. -/
namespace Go.Proofs.YtbkkfkbgcklkgaaGreat
open Go.RowKit
set_option maxHeartbeats 10000000
set_option maxRecDepth 100000

theorem devFlags_any (B a mb : Nat) (m : DevM) (N : Nat) (F : Nat → Prop) (w : World) (hI : DevIs B w a mb m F) (hN : m.p.out = (N : Int)) (hN8 : N ≤ 8) (hval : ∀ b, m.valve.value = some b → b.length = N) :
    Calls Tryz.prog 184 #[.pointer (some ⟨a, 0, none⟩)] w fun e w' => e = .returned (.int .i64 (flagsM m.valve m.hold)) ∧ Below w.heap.size w w' := by
  obtain ⟨⟨κ, c, d, v, g, val, hH, hF⟩, hlo⟩ := hI
  have hc := hH.blk.cell
  unfold devCells at hc
  have hv := hH.valve
  rw [hN] at hv
  have or_0_1 : bits .or .i64 0 1 = 1 := by kernel_rfl
  have or_0_2 : bits .or .i64 0 2 = 2 := by kernel_rfl
  have or_1_2 : bits .or .i64 1 2 = 3 := by kernel_rfl
  have or_0_4 : bits .or .i64 0 4 = 4 := by kernel_rfl
  have or_1_4 : bits .or .i64 1 4 = 5 := by kernel_rfl
  have or_2_4 : bits .or .i64 2 4 = 6 := by kernel_rfl
  have or_3_4 : bits .or .i64 3 4 = 7 := by kernel_rfl
  have or_0_8 : bits .or .i64 0 8 = 8 := by kernel_rfl
  have or_1_8 : bits .or .i64 1 8 = 9 := by kernel_rfl
  have or_2_8 : bits .or .i64 2 8 = 10 := by kernel_rfl
  have or_3_8 : bits .or .i64 3 8 = 11 := by kernel_rfl
  have or_4_8 : bits .or .i64 4 8 = 12 := by kernel_rfl
  have or_5_8 : bits .or .i64 5 8 = 13 := by kernel_rfl
  have or_6_8 : bits .or .i64 6 8 = 14 := by kernel_rfl
  have or_7_8 : bits .or .i64 7 8 = 15 := by kernel_rfl
  obtain ⟨fl, Hfl⟩ : ∃ x, Hid (x = flagsM m.valve m.hold) := ⟨_, Lib.hid rfl⟩
  rw [← Hfl.out]
  go_enter Tryz.func184, Tryz.ntmps184
  go_wp2_with fail
  refine (valveOutput_any v m.valve N _ w hv hN8 hval).mono ?_
  rintro e w1 ⟨x, rfl, hownx, hlx, hb1⟩
  have hv1 := hv.keep (F' := Of κ 2) (S := fun _ => False) (Keep.of_below hb1) (fun _ _ h => h) (fun _ h => h)
  have hc1 := ((hH.blk).below hb1 hH.blk.lt).cell
  unfold devCells at hc1
  obtain ⟨Ax, cx, rfl⟩ := own_slice hownx
  clear hc hownx hlx hval hv
  have hq := valveRequest_any v m.valve _ _ w1 hv1
  have hl := valveLatched_any v m.valve _ _ w1 hv1
  cases hon : m.valve.on <;> cases hrq : m.valve.request <;> cases hlt : (m.valve.latched != 0) <;> cases hho : m.hold
  all_goals
    rw [hrq] at hq
    rw [hho] at hc1
    go_wp2_with fail
    refine hq.mono ?_
    rintro e w2 ⟨rfl, rfl⟩
    go_wp2_with fail
    refine hl.mono ?_
    rintro e w2 ⟨rfl, rfl⟩
    go_wp2_with fail
    go_ret
    refine ⟨?_, hb1⟩
    have e1 : (m.valve.latched = 0) = (¬ (m.valve.latched != 0) = true) := by simp
    rw [Hfl.out]
    unfold flagsM
    simp only [hon, hrq, hho, e1, hlt]
    rfl
theorem devReply_any (B a mb : Nat) (m : DevM) (F : Nat → Prop) (k n : Int) (data : List UInt8) (A : Option Addr) (len cap Br : Nat) (w : World) (hI : DevIs B w a mb m F) (hi : m.Inv) (hlen : data.length = len) (hn : 0 ≤ n ∧ n < 4294967296) (hr : Reads w Br 1 A len (u8c data)) (hB : Br ≤ w.heap.size) :
    Calls Tryz.prog 164 #[.pointer (some ⟨a, 0, none⟩), .int .i64 k, .int .u32 n, .slice A len cap] w fun e w' => ∃ x, e = .returned x ∧ w'.ownsRow w.heap.size 5 1 x (m.frame k n (if k = 20 then flagsM m.valve m.hold else 0) data).length (u8c (m.frame k n (if k = 20 then flagsM m.valve m.hold else 0) data)) ∧ Below w.heap.size w w' := by
  have hI0 := hI
  obtain ⟨⟨κ, c, d, v, g, val, hH, hF⟩, hlo⟩ := hI
  have hc := hH.blk.cell
  unfold devCells at hc
  have hp8 := hi.p8
  obtain ⟨N, hN⟩ : ∃ N : Nat, m.p.out = (N : Int) := ⟨m.p.out.toNat, by omega⟩
  have hN8 : N ≤ 8 := by omega
  have hvv : ∀ b, m.valve.value = some b → b.length = N := fun b hb => by have := hi.vval b hb; omega
  obtain ⟨fl, Hfl⟩ : ∃ x, Hid (x = if k = 20 then flagsM m.valve m.hold else 0) := ⟨_, Lib.hid rfl⟩
  rw [← Hfl.out]
  obtain ⟨fr, Hfr⟩ : ∃ fr, Hid (fr = (UnitM.mk k m.p.code m.session n fl data).encode) := ⟨_, Lib.hid rfl⟩
  rw [show m.frame k n fl data = fr from Hfr.out.symm]
  have hb1 := hH.blk.drew
  have HN := Lib.hid hN
  have Hlen := Lib.hid hlen
  clear hN hp8 hlen
  go_enter Tryz.func164, Tryz.ntmps164
  go_wp2_with fail
  go_region_held3 (fun w' => w'.cell? ⟨a, 0, none⟩ = some (.int .u32 m.p.code) ∧ w'.cell? ⟨a, 12, none⟩ = some (.int .u32 m.session)) (first | exact ⟨(hb1.cell 0).trans rfl, (hb1.cell 12).trans rfl⟩ | exact ⟨((hb1.alloc _).cell 0).trans rfl, ((hb1.alloc _).cell 12).trans rfl⟩) (fail)
  have hU := (Blk.new w 68 #[.int .i64 k, .int .u32 m.p.code, .int .u32 m.session, .int .u32 n, .int .i64 0, .slice A len cap]).drew
  have hb2 : Below w.heap.size w (w.alloc (.cells #[.int .i64 k, .int .u32 m.p.code, .int .u32 m.session, .int .u32 n, .int .i64 0, .slice A len cap] 68)).drew := ((Below.refl _ w).alloc (Nat.le_refl _) _).drew
  have hI2 := hI0.below hb2
  have hr2 := hr.below (hb2.mono hB)
  obtain ⟨u, Hu⟩ : ∃ u, Hid (u = w.heap.size) := ⟨_, Lib.hid rfl⟩
  have hs1 : w.heap.size ≤ u := by have := Hu.out; omega
  rw [← Hu.out] at hU ⊢
  generalize (w.alloc (.cells #[.int .i64 k, .int .u32 m.p.code, .int .u32 m.session, .int .u32 n, .int .i64 0, .slice A len cap] 68)).drew = W2 at *
  have hul := hU.lt
  have huc := hU.cell
  have hs2 := hb2.size
  clear hc hb1
  have hok : (0 ≤ m.p.code ∧ m.p.code < 4294967296) ∧ (0 ≤ m.session ∧ m.session < 4294967296) := ⟨hi.pok.code, hi.session⟩
  by_cases hk : k = 20
  · subst hk
    have hfl : fl = flagsM m.valve m.hold := by rw [Hfl.out, if_pos rfl]
    subst hfl
    clear Hfl
    go_wp2_with fail
    refine (devFlags_any B a mb m N F W2 hI2 HN.out hN8 hvv).mono ?_
    rintro e W3 ⟨rfl, hb3⟩
    generalize flagsM m.valve m.hold = fl at *
    have hU3 := hU.below hb3 hul
    have hb3' := hb2.trans (hb3.mono hs2)
    have hU4 : Blk (W3.setCell ⟨u, 4, none⟩ (.int .i64 fl)) u 68 #[.int .i64 20, .int .u32 m.p.code, .int .u32 m.session, .int .u32 n, .int .i64 fl, .slice A len cap] := by simpa using hU3.set_ 4 (.int .i64 fl)
    have hb4 : Below w.heap.size w (W3.setCell ⟨u, 4, none⟩ (.int .i64 fl)) := hb3'.setCell (p := ⟨u, 4, none⟩) hs1 _
    have hr4 : Reads (W3.setCell ⟨u, 4, none⟩ (.int .i64 fl)) Br 1 A len (u8c data) := (hr2.below (hb3.mono (by omega))).setCell (p := ⟨u, 4, none⟩) (show Br ≤ u by omega) _
    clear huc
    have huc := hU3.cell
    have huf := hU3.frozen
    go_wp2_with fail
    have hs4 := hb4.size
    generalize W3.setCell ⟨u, 4, none⟩ (.int .i64 fl) = W4 at *
    have henc := unitEncode_at 20 m.p.code m.session n fl data A len cap Br W4 Hlen.out hok.1 hok.2 hn hr4 (by omega)
    rw [← Hfr.out] at henc
    refine henc.mono ?_
    rintro e W5 ⟨v5, er, rfl, hown5, hb5⟩
    obtain ⟨A5, c5, rfl⟩ := own_slice hown5
    go_wp2_with fail
    go_ret
    exact ⟨_, rfl, own_base hown5 hs4, hb4.trans (hb5.mono hs4)⟩
  · have hfl : fl = 0 := by rw [Hfl.out, if_neg hk]
    subst hfl
    have gk : (k == 20) = false := by simpa using hk
    clear Hfl
    go_wp2_with fail
    have henc := unitEncode_at k m.p.code m.session n 0 data A len cap Br W2 Hlen.out hok.1 hok.2 hn hr2 (by omega)
    rw [← Hfr.out] at henc
    refine henc.mono ?_
    rintro e W5 ⟨v5, er, rfl, hown5, hb5⟩
    obtain ⟨A5, c5, rfl⟩ := own_slice hown5
    go_wp2_with fail
    go_ret
    exact ⟨_, rfl, own_base hown5 hs2, hb2.trans (hb5.mono hs2)⟩
theorem devNone_any (B a mb : Nat) (m : DevM) (F : Nat → Prop) (k n : Int) (w : World) (hI : DevIs B w a mb m F) (hi : m.Inv) (hn : 0 ≤ n ∧ n < 4294967296) (hk : k ≠ 20) :
    Calls Tryz.prog 164 #[.pointer (some ⟨a, 0, none⟩), .int .i64 k, .int .u32 n, .slice none 0 0] w fun e w' => ∃ x, e = .returned x ∧ w'.ownsRow w.heap.size 5 1 x (m.frame k n 0 []).length (u8c (m.frame k n 0 [])) ∧ Below w.heap.size w w' := by
  have := devReply_any B a mb m F k n [] none 0 0 0 w hI hi rfl hn Reads.none_ (Nat.zero_le _)
  rwa [if_neg hk] at this
theorem devOffer_any (B a mb : Nat) (m : DevM) (F : Nat → Prop) (w : World) (hI : DevIs B w a mb m F) (hi : m.Inv) :
    Calls Tryz.prog 163 #[.pointer (some ⟨a, 0, none⟩)] w fun e w' => ∃ x, e = .returned x ∧ w'.ownsRow w.heap.size 5 1 x m.offer.length (u8c m.offer) ∧ Below w.heap.size w w' := by
  have hI0 := hI
  obtain ⟨⟨κ, c, d, v, g, val, hH, hF⟩, hlo⟩ := hI
  have hc := hH.blk.cell
  unfold devCells at hc
  have hsig := paramSignature_any m.p w hi.pok hi.plaw
  unfold parVal at hsig
  obtain ⟨of, Hof⟩ : ∃ of, Hid (of = m.offer) := ⟨_, Lib.hid rfl⟩
  rw [← Hof.out]
  go_enter Tryz.func163, Tryz.ntmps163
  go_wp2_with fail
  refine hsig.mono ?_
  rintro e W1 ⟨rfl, hb1⟩
  go_wp2_with fail
  refine (paramBytes_any (crcOf 0#32 m.p.bytes) W1).mono ?_
  rintro e W2 ⟨x2, rfl, hown2, hb2⟩
  obtain ⟨A2, c2, rfl⟩ := own_slice hown2
  have hb2' := hb1.trans (hb2.mono hb1.size)
  have hs2 := hb2'.size
  have hrep := devReply_any B a mb m F 17 0 m.p.sign A2 4 c2 W2.heap.size W2 (hI0.below hb2') hi (sign_length _) (by omega) (Reads.of_own hown2) (Nat.le_refl _)
  rw [if_neg (by decide)] at hrep
  rw [show m.frame 17 0 0 m.p.sign = of from Hof.out.symm] at hrep
  go_wp2_with fail
  refine hrep.mono ?_
  rintro e W3 ⟨x3, rfl, hown3, hb3⟩
  obtain ⟨A3, c3, rfl⟩ := own_slice hown3
  go_wp2_with fail
  go_ret
  exact ⟨_, rfl, own_base hown3 hs2, hb2'.trans (hb3.mono hs2)⟩
/-- What a call leaves of a device, apart from what it answers. -/
structure DevAp (B : Nat) (w : World) (a mb : Nat) (m : DevM) (F : Nat → Prop) (x : Value) (w' : World) : Prop where
  too : DevTo B w a mb m F w'
  ap : ∃ F' : Nat → Prop, DevIs B w' a mb m F' ∧ (∀ y, F' y → grow F w w' y) ∧ ∀ y, x.ownBlock = some y → ¬ F' y
/-- What a call that answers a frame leaves. -/
def DevAns (B : Nat) (w : World) (a mb : Nat) (F : Nat → Prop) (r : DevM × List UInt8 × Int) (e : Ending) (w' : World) : Prop :=
  ∃ x, e = .returned (.tuple #[x, .int .i64 r.2.2]) ∧ w'.ownsRow w.heap.size 5 1 x r.2.1.length (u8c r.2.1) ∧ DevAp B w a mb r.1 F x w'
theorem DevAp.end_ {B : Nat} {w w1 w2 : World} {a mb n : Nat} {m m1 : DevM} {F : Nat → Prop} {x : Value} {xs : List Value} (h0 : DevIs B w a mb m F) (t : DevTo B w a mb m1 F w1) (hb : Below w1.heap.size w1 w2) (hx : w2.ownsRow w1.heap.size 5 1 x n xs) : DevAp B w a mb m1 F x w2 := by
  have hs := t.keep.size
  have hs2 := hb.size
  refine ⟨DevTo.below h0 t hb, grow F w w1, t.is_.below hb, fun y hy => hy.imp id (fun h => ⟨h.1, by omega⟩), fun y hy hF => ?_⟩
  have := (hx.lt y hy).1
  rcases hF with hF | hF
  · have := (h0.lo y hF).2; omega
  · omega
theorem DevAp.nil_ {B : Nat} {w w1 : World} {a mb c n : Nat} {m1 : DevM} {F : Nat → Prop} (t : DevTo B w a mb m1 F w1) : DevAp B w a mb m1 F (.slice none n c) w1 :=
  ⟨t, grow F w w1, t.is_, fun _ h => h, fun y hy => by simp [Value.ownBlock] at hy⟩
theorem DevAp.trans {B : Nat} {w w1 w2 : World} {a mb : Nat} {m m1 m2 : DevM} {F : Nat → Prop} {x : Value} (h0 : DevIs B w a mb m F) (t : DevTo B w a mb m1 F w1) (h : DevAp B w1 a mb m2 (grow F w w1) x w2) : DevAp B w a mb m2 F x w2 := by
  obtain ⟨F', h1, h2, h3⟩ := h.ap
  exact ⟨DevTo.trans h0 t h.too, F', h1, fun y hy => grow_grow t.keep.size h.too.keep.size y (h2 y hy), h3⟩
theorem devStuck_any (B a mb : Nat) (m : DevM) (F : Nat → Prop) (w : World) (hI : DevIs B w a mb m F) (hi : m.Inv) (hlen : m.log.length < 1073741823) :
    Calls Tryz.prog 162 #[.pointer (some ⟨a, 0, none⟩)] w fun e w' => e = .returned (.bool m.strange.2) ∧ DevTo B w a mb m.strange.1 F w' := by
  have hI0 := hI
  obtain ⟨⟨κ, c, d, v, g, val, hH, hF⟩, hlo⟩ := hI
  have hb := hH.blk
  have hc := hb.cell
  have hf := hb.frozen
  unfold devCells at hc
  have hod := hi.odd
  by_cases hbz : m.state = 2 ∨ m.state = 3 ∨ m.state = 4
  · have hbu : m.busy = true := by unfold DevM.busy; simpa using hbz
    have hwr : IntKind.i64.wrap (m.odd + 1) = m.odd + 1 := IntWalk.i64_in _ (by omega)
    have hset : Blk (w.setCell ⟨a, 15, none⟩ (.int .i64 (m.odd + 1))) a 109 (devCells { m with odd := m.odd + 1 } mb c d v g val) := by simpa [devCells] using hb.set_ 15 (.int .i64 (m.odd + 1))
    have tA := hH.toUpd hI0 hF (keepA w) (by simp [World.setCell]) hset rfl rfl rfl rfl rfl rfl rfl
    by_cases h4 : m.odd + 1 < 4
    · have e1 : m.strange = ({ m with odd := m.odd + 1 }, false) := by unfold DevM.strange; simp only [hbu, Bool.not_true, Bool.false_eq_true, if_false]; rw [if_pos h4]
      rw [e1]
      clear e1 hbu
      rcases hbz with hs | hs | hs
      all_goals
        rw [hs] at hc
        go_enter Tryz.func162, Tryz.ntmps162
        go_wp2_with fail
        go_ret
        exact ⟨rfl, tA⟩
    · have Hq : Hid (m.strange = ((if m.state = 4 then ({ m with odd := m.odd + 1 } : DevM).trip 131 else { m with odd := m.odd + 1 }).leave 1, true)) := Lib.hid (by unfold DevM.strange; simp only [hbu, Bool.not_true, Bool.false_eq_true, if_false]; rw [if_neg h4])
      clear hbu
      have notrun : ∀ s, m.state = s → (s = 2 ∨ s = 3) → Calls Tryz.prog 162 #[.pointer (some ⟨a, 0, none⟩)] w fun e w' => e = .returned (.bool m.strange.2) ∧ DevTo B w a mb m.strange.1 F w' := by
        intro s hs hcase
        rw [Hq.out, if_neg (by omega)]
        rcases hcase with rfl | rfl
        all_goals
          rw [hs] at hc
          go_enter Tryz.func162, Tryz.ntmps162
          go_wp2_with fail
          refine (devLeave_any B a mb { m with odd := m.odd + 1 } _ 1 _ tA.is_).mono ?_
          rintro e w2 ⟨rfl, t2⟩
          go_wp2_with fail
          go_ret
          exact ⟨rfl, DevTo.trans hI0 tA t2⟩
      rcases hbz with hs | hs | hs
      · exact notrun 2 hs (.inl rfl)
      · exact notrun 3 hs (.inr rfl)
      · rw [Hq.out, if_pos hs]
        rw [hs] at hc
        clear notrun Hq
        go_enter Tryz.func162, Tryz.ntmps162
        go_wp2_with fail
        refine (devTrip_any B a mb { m with odd := m.odd + 1 } _ 131 _ (by decide) tA.is_ hlen).mono ?_
        rintro e w2 ⟨rfl, t2⟩
        have t12 := DevTo.trans hI0 tA t2
        go_wp2_with fail
        refine (devLeave_any B a mb (({ m with odd := m.odd + 1 } : DevM).trip 131) _ 1 _ t12.is_).mono ?_
        rintro e w3 ⟨rfl, t3⟩
        go_wp2_with fail
        go_ret
        exact ⟨rfl, DevTo.trans hI0 t12 t3⟩
  · have hbu : m.busy = false := by unfold DevM.busy; simpa using hbz
    have e1 : m.strange = (m, false) := by unfold DevM.strange; simp [hbu]
    rw [e1]
    have g2 : (m.state != 2) = true := by simp; omega
    have g3 : (m.state != 3) = true := by simp; omega
    have g4 : (m.state != 4) = true := by simp; omega
    have n2 : ¬ m.state = 2 := by omega
    have n3 : ¬ m.state = 3 := by omega
    have n4 : ¬ m.state = 4 := by omega
    clear hbz hbu e1
    go_enter Tryz.func162, Tryz.ntmps162
    go_wp2_with fail
    go_ret
    exact ⟨rfl, DevTo.refl hI0⟩
theorem devOdds_any (B a mb : Nat) (m : DevM) (F : Nat → Prop) (er : Int) (w : World) (hI : DevIs B w a mb m F) (hi : m.Inv) (hlen : m.log.length < 1073741823) :
    Calls Tryz.prog 139 #[.pointer (some ⟨a, 0, none⟩), .int .i64 er] w fun e w' => DevAns B w a mb F (m.odds er) e w' := by
  obtain ⟨q, Hq⟩ : ∃ q, Hid (q = m.strange) := ⟨_, Lib.hid rfl⟩
  have hst := devStuck_any B a mb m F w hI hi hlen
  have hqi := hi.strange
  have Ho : Hid (m.odds er = (q.1, q.1.none, er)) := Lib.hid (by rw [Hq.out]; rfl)
  rw [← Hq.out] at hst hqi
  rw [Ho.out]
  unfold DevAns
  clear Hq Ho
  obtain ⟨k, b⟩ := q
  simp only at *
  obtain ⟨fr, Hfr⟩ : ∃ fr, Hid (fr = k.none) := ⟨_, Lib.hid rfl⟩
  rw [← Hfr.out]
  go_enter Tryz.func139, Tryz.ntmps139
  go_wp2_with fail
  refine hst.mono ?_
  rintro e W1 ⟨rfl, t1⟩
  have hrep := devNone_any B a mb k _ 22 0 W1 t1.is_ hqi (by omega) (by decide)
  rw [show k.frame 22 0 0 [] = fr from Hfr.out.symm] at hrep
  go_wp2_with fail
  refine hrep.mono ?_
  rintro e W2 ⟨x2, rfl, hown2, hb2⟩
  obtain ⟨A2, c2, rfl⟩ := own_slice hown2
  go_wp2_with fail
  have hs1 := t1.keep.size
  refine bodyPost_ret (v := .tuple #[.slice A2 fr.length c2, .int .i64 er]) (by simp [results, Tryz.results139, go_sem]) rfl ⟨_, rfl, own_base hown2 hs1, DevAp.end_ hI t1 hb2 hown2⟩
end Go.Proofs.YtbkkfkbgcklkgaaGreat
/- A device's begin, asked, echoed, started. -/
namespace Go.Proofs.YtbkkfkbgcklkgaaGreat
open Go.RowKit
set_option maxHeartbeats 10000000
set_option maxRecDepth 100000

theorem dtrip_log (m : DevM) (code : Int) : (m.trip code).log.length ≤ m.log.length + 1 := by
  unfold DevM.trip
  simp only
  split <;> simp [noteM]
theorem strange_log (m : DevM) : m.strange.1.log.length ≤ m.log.length + 1 := by
  unfold DevM.strange
  split
  · simp
  · simp only
    split
    · simp
    · split
      · exact dtrip_log { m with odd := m.odd + 1 } 131
      · simp [DevM.leave]
theorem devBegin_any (B a mb : Nat) (m : DevM) (F : Nat → Prop) (w : World) (hI : DevIs B w a mb m F) (hi : m.Inv) (hlen : m.log.length < 1073741822) :
    Calls Tryz.prog 165 #[.pointer (some ⟨a, 0, none⟩)] w fun e w' => DevAns B w a mb F m.begin_ e w' := by
  have hI0 := hI
  obtain ⟨⟨κ, c, d, v, g, val, hH, hF⟩, hlo⟩ := hI
  have hc := hH.blk.cell
  unfold devCells at hc
  have hnx := cellNext_any c mb m.cell m.m (Of κ 5) w hH.mem hH.cell (fun x hx => (hH.inF hx).2) (hH.kc.ne (by decide)) hi.mem ⟨hi.cval.1, by rw [hi.cmax]; exact hi.mx.2⟩
  have hnc := next_cell m.cell m.m hi.cval.1 (by rw [hi.cmax]; exact hi.mx.2) hi.cval.2
  have hnl := next_len m.cell m.m
  have hne := next_err m.cell m.m
  obtain ⟨q, Hq⟩ : ∃ q, Hid (q = m.begin_) := ⟨_, Lib.hid rfl⟩
  have Hq1 : Hid (q = (if (m.cell.next m.m).2.2.2 = 80 then ((({ m with cell := (m.cell.next m.m).1, m := (m.cell.next m.m).2.1 } : DevM).trip 80).leave 5, ((({ m with cell := (m.cell.next m.m).1, m := (m.cell.next m.m).2.1 } : DevM).trip 80).leave 5).none, 80)
    else if (m.cell.next m.m).2.2.2 ≠ 0 then (({ m with cell := (m.cell.next m.m).1, m := (m.cell.next m.m).2.1 } : DevM).life 6, [], 70)
    else ({ (({ m with cell := (m.cell.next m.m).1, m := (m.cell.next m.m).2.1 } : DevM).leave 2) with session := (m.cell.next m.m).2.2.1 }, DevM.offer { (({ m with cell := (m.cell.next m.m).1, m := (m.cell.next m.m).2.1 } : DevM).leave 2) with session := (m.cell.next m.m).2.2.1 }, 0))) := Lib.hid (by rw [Hq.out]; rfl)
  rw [← Hq.out]
  have hcm := hi.cmax
  have hme := hi.mem
  generalize m.cell.next m.m = r at *
  obtain ⟨c', m', s, er⟩ := r
  simp only at hnx hnc hnl hne
  have hgi : ({ m with cell := c', m := m' } : DevM).Inv := { hi with cmax := by simp only; omega, cval := hnc.2.1, mem := by simp only; omega }
  clear Hq hcm hme hnl
  unfold DevAns
  rcases hne with rfl | rfl | rfl
  · have hq := Hq1.out
    rw [if_neg (by simp), if_neg (by simp)] at hq
    subst hq
    clear Hq1
    have hki : ({ (({ m with cell := c', m := m' } : DevM).leave 2) with session := s } : DevM).Inv := { hgi.leave 2 (by omega) with session := hnc.2.2 }
    obtain ⟨of, Hof⟩ : ∃ of, Hid (of = DevM.offer { (({ m with cell := c', m := m' } : DevM).leave 2) with session := s }) := ⟨_, Lib.hid rfl⟩
    simp only
    rw [← Hof.out]
    go_enter Tryz.func165, Tryz.ntmps165
    go_wp2_with fail
    refine hnx.mono ?_
    rintro e W1 ⟨rfl, hm1, hc1, hk1⟩
    have t1 := hH.toCell hI0 hF hm1 hc1 hk1
    go_wp2_with fail
    refine (devLeave_any B a mb _ _ 2 W1 t1.is_).mono ?_
    rintro e W2 ⟨rfl, t2⟩
    have t12 := DevTo.trans hI0 t1 t2
    obtain ⟨⟨κ2, c2, d2, v2, g2, val2, h2, hF2⟩, hlo2⟩ := t12.is_
    have hb2 := h2.blk
    clear hc
    have hc := hb2.cell
    have hf := hb2.frozen
    unfold devCells at hc
    have t3 : DevTo B W2 a mb { (({ m with cell := c', m := m' } : DevM).leave 2) with session := s } (grow F w W2) (W2.setCell ⟨a, 12, none⟩ (.int .u32 s)) :=
      h2.toUpd t12.is_ hF2 (keepA W2) (by simp [World.setCell]) (by simpa [devCells] using hb2.set_ 12 (.int .u32 s)) rfl rfl rfl rfl rfl rfl rfl
    have t13 := DevTo.trans hI0 t12 t3
    have hoff := devOffer_any B a mb _ _ _ t13.is_ hki
    rw [← Hof.out] at hoff
    go_wp2_with fail
    refine hoff.mono ?_
    rintro e W3 ⟨x3, rfl, hown3, hb3⟩
    obtain ⟨A3, c3, rfl⟩ := own_slice hown3
    go_wp2_with fail
    have hs3 := t13.keep.size
    refine bodyPost_ret (v := .tuple #[.slice A3 of.length c3, .int .i64 0]) (by simp [results, Tryz.results165, go_sem]) rfl ⟨_, rfl, own_base hown3 hs3, DevAp.end_ hI0 t13 hb3 hown3⟩
  · have hq := Hq1.out
    rw [if_neg (by simp), if_pos (by simp)] at hq
    subst hq
    clear Hq1
    go_enter Tryz.func165, Tryz.ntmps165
    go_wp2_with fail
    refine hnx.mono ?_
    rintro e W1 ⟨rfl, hm1, hc1, hk1⟩
    have t1 := hH.toCell hI0 hF hm1 hc1 hk1
    go_wp2_with fail
    refine (devDown_any B a mb _ _ W1 t1.is_ hi.plaw).mono ?_
    rintro e W2 ⟨rfl, t2⟩
    have t12 := DevTo.trans hI0 t1 t2
    go_wp2_with fail
    refine bodyPost_ret (v := .tuple #[.slice none 0 0, .int .i64 70]) (by simp [results, Tryz.results165, go_sem]) rfl ⟨_, rfl, World.ownsRow_nil _ _ _ _, DevAp.nil_ t12⟩
  · have hq := Hq1.out
    rw [if_pos rfl] at hq
    subst hq
    clear Hq1
    have hki := (hgi.trip 80).leave 5 (by omega)
    obtain ⟨of, Hof⟩ : ∃ of, Hid (of = ((({ m with cell := c', m := m' } : DevM).trip 80).leave 5).none) := ⟨_, Lib.hid rfl⟩
    simp only
    rw [← Hof.out]
    go_enter Tryz.func165, Tryz.ntmps165
    go_wp2_with fail
    refine hnx.mono ?_
    rintro e W1 ⟨rfl, hm1, hc1, hk1⟩
    have t1 := hH.toCell hI0 hF hm1 hc1 hk1
    go_wp2_with fail
    refine (devTrip_any B a mb _ _ 80 W1 (by decide) t1.is_ (by simp only; omega)).mono ?_
    rintro e W2 ⟨rfl, t2⟩
    have t12 := DevTo.trans hI0 t1 t2
    go_wp2_with fail
    refine (devLeave_any B a mb _ _ 5 W2 t12.is_).mono ?_
    rintro e W3 ⟨rfl, t3⟩
    have t13 := DevTo.trans hI0 t12 t3
    have hrep := devNone_any B a mb _ _ 22 0 W3 t13.is_ hki (by omega) (by decide)
    rw [show DevM.frame _ 22 0 0 [] = of from Hof.out.symm] at hrep
    go_wp2_with fail
    refine hrep.mono ?_
    rintro e W4 ⟨x4, rfl, hown4, hb4⟩
    obtain ⟨A4, c4, rfl⟩ := own_slice hown4
    go_wp2_with fail
    have hs3 := t13.keep.size
    refine bodyPost_ret (v := .tuple #[.slice A4 of.length c4, .int .i64 80]) (by simp [results, Tryz.results165, go_sem]) rfl ⟨_, rfl, own_base hown4 hs3, DevAp.end_ hI0 t13 hb4 hown4⟩
theorem devStarted_any (B a mb : Nat) (m : DevM) (F : Nat → Prop) (w : World) (hI : DevIs B w a mb m F) (hi : m.Inv) :
    Calls Tryz.prog 135 #[.pointer (some ⟨a, 0, none⟩)] w fun e w' => DevAns B w a mb F ((if m.state = 3 then (({ m with state := 4 } : DevM).run true).alive else m), (if m.state = 3 then (({ m with state := 4 } : DevM).run true).alive else m).frame 19 0 0 [], 0) e w' := by
  have hI0 := hI
  obtain ⟨⟨κ, c, d, v, g, val, hH, hF⟩, hlo⟩ := hI
  have hb := hH.blk
  have hc := hb.cell
  have hf := hb.frozen
  unfold devCells at hc
  unfold DevAns
  by_cases h3 : m.state = 3
  · rw [if_pos h3]
    have hki := ((hi.toSt 4 (by omega)).run true).alive
    obtain ⟨of, Hof⟩ : ∃ of, Hid (of = ((({ m with state := 4 } : DevM).run true).alive).frame 19 0 0 []) := ⟨_, Lib.hid rfl⟩
    simp only
    rw [← Hof.out]
    rw [h3] at hc
    have hset : Blk (w.setCell ⟨a, 11, none⟩ (.int .i64 4)) a 109 (devCells { m with state := 4 } mb c d v g val) := by simpa [devCells] using hb.set_ 11 (.int .i64 4)
    have tA := hH.toUpd hI0 hF (keepA w) (by simp [World.setCell]) hset rfl rfl rfl rfl rfl rfl rfl
    have hA := hH.upd (keepA w) (by simp [World.setCell]) hset rfl rfl rfl rfl rfl rfl rfl
    go_enter Tryz.func135, Tryz.ntmps135
    go_wp2_with fail
    refine (valveRun_any v m.valve _ _ true _ hA.valve).mono ?_
    rintro e W2 ⟨rfl, hv2, hk2, hs2⟩
    have t2 := hA.toValve tA.is_ (fun x hx => .inl (hF x hx)) hv2 hk2 (fun x hx => .inl hx)
    have t12 : DevTo B w a mb (({ m with state := 4 } : DevM).run true) F W2 := DevTo.trans hI0 tA t2
    clear hs2
    go_wp2_with fail
    refine (devAlive_any B a mb (({ m with state := 4 } : DevM).run true) _ W2 t12.is_).mono ?_
    rintro e W3 ⟨rfl, t3⟩
    have t13 := DevTo.trans hI0 t12 t3
    have hrep := devNone_any B a mb _ _ 19 0 W3 t13.is_ hki (by omega) (by decide)
    rw [← Hof.out] at hrep
    go_wp2_with fail
    refine hrep.mono ?_
    rintro e W4 ⟨x4, rfl, hown4, hb4⟩
    obtain ⟨A4, c4, rfl⟩ := own_slice hown4
    go_wp2_with fail
    have hs3 := t13.keep.size
    refine bodyPost_ret (v := .tuple #[.slice A4 of.length c4, .int .i64 0]) (by simp [results, Tryz.results135, go_sem]) rfl ⟨_, rfl, own_base hown4 hs3, DevAp.end_ hI0 t13 hb4 hown4⟩
  · rw [if_neg h3]
    obtain ⟨of, Hof⟩ : ∃ of, Hid (of = m.frame 19 0 0 []) := ⟨_, Lib.hid rfl⟩
    simp only
    rw [← Hof.out]
    have g3 : (m.state == 3) = false := by simpa using h3
    have hrep := devNone_any B a mb m F 19 0 w hI0 hi (by omega) (by decide)
    rw [← Hof.out] at hrep
    go_enter Tryz.func135, Tryz.ntmps135
    go_wp2_with fail
    refine hrep.mono ?_
    rintro e W4 ⟨x4, rfl, hown4, hb4⟩
    obtain ⟨A4, c4, rfl⟩ := own_slice hown4
    go_wp2_with fail
    refine bodyPost_ret (v := .tuple #[.slice A4 of.length c4, .int .i64 0]) (by simp [results, Tryz.results135, go_sem]) rfl ⟨_, rfl, hown4, DevAp.end_ hI0 (DevTo.refl hI0) hb4 hown4⟩
end Go.Proofs.YtbkkfkbgcklkgaaGreat
