/- The base of the laws of the host, part 5: contracts and plain lemmas, no statement. -/
import Derived.Test.YtfoldlbnkfnenaaGreatBase4
import Derived.Deep.RegionHeld3
/- The other calls of package diag. -/
namespace Go.Proofs.YtfoldlbnkfnenaaGreat
open Go.RowKit
set_option maxHeartbeats 400000
set_option maxRecDepth 100000

theorem diagNew_any (w : World) : Calls Tryz.prog 39 #[] w fun e w' => ∃ a, e = .returned (.pointer (some ⟨a, 0, none⟩)) ∧ DiagIs w' a [] (fun x => w.heap.size ≤ x ∧ x < w'.heap.size) ∧ Below w.heap.size w w' := by
  have hmm := @run_makeMap Tryz.prog
  go_enter Tryz.func39, Tryz.ntmps39
  go_wp2_with fail
  refine (meterNew_any _).mono ?_
  rintro e w' ⟨rfl, rfl⟩
  go_wp2_with fail
  go_ret
  have hsz : (((w.alloc (.cells (meterCells 0 none) 180)).alloc (.map #[] 0)).alloc (.cells #[.pointer (some ⟨w.heap.size, 0, none⟩), .map (some (w.heap.size + 1)), .slice none 0 0] 130)).heap.size = w.heap.size + 3 := by simp
  refine ⟨w.heap.size + 2, rfl, ⟨fun i r h => by simp at h, w.heap.size, w.heap.size + 1, .slice none 0 0, none, [], ⟨?_, ?_, .inl ⟨rfl, rfl⟩, ?_, by simp, (fun c b h => by cases h), fun c h => rfl, by simp, World.ownsRow_nil _ _ _ _, ?_, ?_, ?_, (fun g h => by cases h), (fun p h => by cases h), (fun p h => by cases h)⟩, (fun c b h => by cases h)⟩, ?_⟩
  · exact Blk.new' _ _ _ (by simp)
  · exact ((Blk.new w _ _).alloc _).alloc _
  · exact (Below.heap_alloc _ _ _ (by simp)).trans (by
      show ((w.alloc (.cells (meterCells 0 none) 180)).heap.push (.map #[] 0))[w.heap.size + 1]? = _
      rw [show w.heap.size + 1 = (w.alloc (.cells (meterCells 0 none) 180)).heap.size by simp, Array.getElem?_push_size]
      rfl)
  · rw [hsz]; omega
  · rw [hsz]; omega
  · rw [hsz]; omega
  · exact (((Below.refl _ _).alloc (Nat.le_refl _) _).alloc (by simp) _).alloc (by simp; omega) _

theorem diagTotal_any (a : Nat) (L : List Rec) (F : Nat → Prop) (w : World) (hD : DiagIs w a L F) (hs : L.length < 1073741823) :
    Calls Tryz.prog 66 #[.pointer (some ⟨a, 0, none⟩)] w fun e w' => e = .returned (.int .i64 L.length) ∧ w' = w := by
  obtain ⟨_, bm, mp, vl, last, cs, D, _⟩ := hD
  have hA0 : ∀ i, w.cell? ⟨a, i, none⟩ = (#[.pointer (some ⟨bm, 0, none⟩), .map (some mp), vl] : Array Value)[i]? := D.self.cell
  go_enter Tryz.func66, Tryz.ntmps66
  go_wp2_with fail
  refine (meterTotal_any bm _ _ _ D.all).mono ?_
  rintro e w' ⟨rfl, rfl⟩
  go_wp2_with fail
  go_ret
  exact ⟨rfl, rfl⟩

theorem kept_length (L : List Rec) : (kept L).length ≤ 16 := by unfold kept; rw [List.length_drop]; omega
theorem diagRecords_any (a : Nat) (L : List Rec) (F : Nat → Prop) (w : World) (hD : DiagIs w a L F) :
    Calls Tryz.prog 65 #[.pointer (some ⟨a, 0, none⟩)] w fun e w' => ∃ v, e = .returned v ∧ w'.ownsRow w.heap.size 145 4 v (kept L).length (recsCells (kept L)) ∧ Below w.heap.size w w' := by
  obtain ⟨_, bm, mp, vl, last, cs, D, _⟩ := hD
  obtain ⟨A, c, rfl⟩ := own_slice D.row
  have hA0 : ∀ i, w.cell? ⟨a, i, none⟩ = (#[.pointer (some ⟨bm, 0, none⟩), .map (some mp), .slice A (kept L).length c] : Array Value)[i]? := D.self.cell
  have hle := kept_length L
  go_enter Tryz.func65, Tryz.ntmps65
  go_wp2_with fail
  refine (cloneRec_any A _ c (recsCells (kept L)) _ ?_ (Reads.of_own D.row) (recsCells_one _) (by omega)).mono ?_
  · rintro rfl
    rcases D.row.2 with ⟨h, _⟩ | ⟨g, cap, cur, h, _⟩
    · injection h
    · injection h with h1; cases h1
  rintro e w' ⟨v, rfl, hown, hb⟩
  go_wp2_with fail
  go_ret
  exact ⟨_, rfl, hown, hb⟩

theorem diagNote_nil (c s k : Int) (w : World) : Calls Tryz.prog 50 #[.pointer none, .int .i64 c, .int .u32 s, .int .u32 k] w fun e w' => e = .returned (.tuple #[.int .i64 0, .int .i64 1]) ∧ w' = w := by
  go_enter Tryz.func50, Tryz.ntmps50
  go_wp2_with fail
  go_ret2
  exact ⟨rfl, rfl⟩
theorem diagNote_ok (a : Nat) (s k : Int) (w : World) : Calls Tryz.prog 50 #[.pointer (some ⟨a, 0, none⟩), .int .i64 0, .int .u32 s, .int .u32 k] w fun e w' => e = .returned (.tuple #[.int .i64 0, .int .i64 2]) ∧ w' = w := by
  go_enter Tryz.func50, Tryz.ntmps50
  go_wp2_with fail
  go_ret2
  exact ⟨rfl, rfl⟩
theorem diagTotal_nil (w : World) : Calls Tryz.prog 66 #[.pointer none] w fun e w' => e = .returned (.int .i64 0) ∧ w' = w := by
  go_enter Tryz.func66, Tryz.ntmps66
  go_wp2_with fail
  go_ret
  exact ⟨rfl, rfl⟩
theorem diagRecords_nil (w : World) : Calls Tryz.prog 65 #[.pointer none] w fun e w' => e = .returned (.slice none 0 0) ∧ w' = w := by
  go_enter Tryz.func65, Tryz.ntmps65
  go_wp2_with fail
  go_ret
  exact ⟨rfl, rfl⟩
end Go.Proofs.YtfoldlbnkfnenaaGreat
/- A host in memory. -/
namespace Go.Proofs.YtfoldlbnkfnenaaGreat
open Go.RowKit
set_option maxHeartbeats 4000000
set_option maxRecDepth 100000

def hostCells (m : HostM) (d v g : Nat) (val : Value) : Array Value :=
  #[.int .u32 m.p.code, .int .i64 m.p.out, .int .i64 m.p.inn, .int .i64 m.p.watch, .int .u32 m.p.count, .pointer (some ⟨d, 0, none⟩), .pointer (some ⟨v, 0, none⟩), .pointer (some ⟨g, 0, none⟩),
    .int .i64 m.state, .int .u32 m.session, .int .u32 m.number, .int .u32 m.sent, .bool m.waits, .int .i64 m.missed, val, .bool m.hold]
/-- A host at block a: its dog d, its valve v, its log g, its value val; all that is its own lies in F, from B on. -/
structure HostAt (B : Nat) (w : World) (a : Nat) (m : HostM) (F : Nat → Prop) (d v g : Nat) (val : Value) (FV FL : Nat → Prop) : Prop where
  blk : Blk w a 88 (hostCells m d v g val)
  dog : DogIs w d m.p.watch m.since
  valve : ValveIs w v m.valve m.p.inn FV
  log : DiagIs w g m.log FL
  value : w.ownsRow 0 5 1 val m.value.length (u8c m.value)
  fa : F a
  fd : F d
  fV : ∀ x, FV x → F x
  fL : ∀ x, FL x → F x
  fx : ∀ x, val.ownBlock = some x → F x
  fb : ∀ x, F x → B ≤ x ∧ x < w.heap.size
  va : ¬ FV a ∧ ¬ FV d
  la : ¬ FL a ∧ ¬ FL d
  vl : ∀ x, FV x → ¬ FL x
  xv : ∀ x, val.ownBlock = some x → ¬ FV x ∧ ¬ FL x ∧ x ≠ a ∧ x ≠ d
def HostIs (B : Nat) (w : World) (a : Nat) (m : HostM) (F : Nat → Prop) : Prop := ∃ d v g val FV FL, HostAt B w a m F d v g val FV FL
section
variable {B : Nat} {w w' : World} {a d v g : Nat} {m : HostM} {F FV FL FV' FL' : Nat → Prop} {val : Value}
theorem HostAt.ne (h : HostAt B w a m F d v g val FV FL) : a ≠ d := h.blk.ne_ h.dog (by decide)
theorem grow_fb (hb : ∀ x, F x → B ≤ x ∧ x < w.heap.size) (hB : B ≤ w.heap.size) (hs : w.heap.size ≤ w'.heap.size) : ∀ x, grow F w w' x → B ≤ x ∧ x < w'.heap.size := by
  intro x hx
  rcases hx with hx | hx
  · have := hb x hx; omega
  · omega
theorem HostAt.Ble (h : HostAt B w a m F d v g val FV FL) : B ≤ w.heap.size := by have := h.fb a h.fa; omega
/-- Behind a call that leaves alone what it did not make. -/
theorem HostAt.below (h : HostAt B w a m F d v g val FV FL) (hb : Below w.heap.size w w') : HostAt B w' a m (grow F w w') d v g val FV FL where
  blk := h.blk.below hb h.blk.lt
  dog := Blk.below h.dog hb (Blk.lt h.dog)
  valve := h.valve.keep (S := fun _ => False) (Keep.of_below hb) (fun _ _ h => h) (fun _ h => h)
  log := h.log.below hb
  value := ownsRow_keep (S := fun _ => False) h.value (Keep.of_below hb) (fun _ _ h => h)
  fa := .inl h.fa
  fd := .inl h.fd
  fV := fun x hx => .inl (h.fV x hx)
  fL := fun x hx => .inl (h.fL x hx)
  fx := fun x hx => .inl (h.fx x hx)
  fb := grow_fb h.fb h.Ble hb.size
  va := h.va
  la := h.la
  vl := h.vl
  xv := h.xv
/-- Behind a store into the host's own block. -/
theorem HostAt.upd (h : HostAt B w a m F d v g val FV FL) {m' : HostM} (hk : Keep (fun x => x = a) w w') (hs : w'.heap.size = w.heap.size) (hb : Blk w' a 88 (hostCells m' d v g val)) (e1 : m'.p = m.p) (e2 : m'.since = m.since) (e3 : m'.valve = m.valve) (e4 : m'.log = m.log) (e5 : m'.value = m.value) :
    HostAt B w' a m' F d v g val FV FL where
  blk := hb
  dog := by rw [e1, e2]; exact Blk.keep h.dog hk (fun e => h.ne e.symm)
  valve := by rw [e1, e3]; exact h.valve.keep hk (fun x hx e => h.va.1 (e ▸ hx)) (fun _ h => h)
  log := by rw [e4]; exact h.log.keep hk (fun x hx e => h.la.1 (e ▸ hx)) (fun _ h => h)
  value := by rw [e5]; exact ownsRow_keep h.value hk (fun x hx e => (h.xv x hx).2.2.1 e)
  fa := h.fa
  fd := h.fd
  fV := h.fV
  fL := h.fL
  fx := h.fx
  fb := by rw [hs]; exact h.fb
  va := h.va
  la := h.la
  vl := h.vl
  xv := h.xv
/-- Behind a call on the valve. -/
theorem HostAt.onValve (h : HostAt B w a m F d v g val FV FL) {V' : ValveM} (hv : ValveIs w' v V' m.p.inn FV') (hk : Keep FV w w') (hF : ∀ x, FV' x → FV x ∨ (w.heap.size ≤ x ∧ x < w'.heap.size)) :
    HostAt B w' a { m with valve := V' } (grow F w w') d v g val FV' FL where
  blk := h.blk.keep hk h.va.1
  dog := Blk.keep h.dog hk h.va.2
  valve := hv
  log := h.log.keep hk (fun x hx e => h.vl x e hx) (fun _ h => h)
  value := ownsRow_keep h.value hk (fun x hx => (h.xv x hx).1)
  fa := .inl h.fa
  fd := .inl h.fd
  fV := fun x hx => (hF x hx).elim (fun hx => .inl (h.fV x hx)) .inr
  fL := fun x hx => .inl (h.fL x hx)
  fx := fun x hx => .inl (h.fx x hx)
  fb := grow_fb h.fb h.Ble hk.size
  va := ⟨fun hx => (hF a hx).elim h.va.1 (fun hx => by have := (h.fb a h.fa).2; omega), fun hx => (hF d hx).elim h.va.2 (fun hx => by have := (h.fb d h.fd).2; omega)⟩
  la := h.la
  vl := fun x hx hl => (hF x hx).elim (fun hx => h.vl x hx hl) (fun hx => by have := (h.fb x (h.fL x hl)).2; omega)
  xv := fun x hx => ⟨fun hv => (hF x hv).elim (h.xv x hx).1 (fun hv => by have := (h.fb x (h.fx x hx)).2; omega), (h.xv x hx).2⟩
/-- Behind a call on the log. -/
theorem HostAt.onLog (h : HostAt B w a m F d v g val FV FL) {L' : List Rec} (hl : DiagIs w' g L' FL') (hk : Keep FL w w') (hF : ∀ x, FL' x → FL x ∨ (w.heap.size ≤ x ∧ x < w'.heap.size)) :
    HostAt B w' a { m with log := L' } (grow F w w') d v g val FV FL' where
  blk := h.blk.keep hk h.la.1
  dog := Blk.keep h.dog hk h.la.2
  valve := h.valve.keep hk (fun x hx e => h.vl x hx e) (fun _ h => h)
  log := hl
  value := ownsRow_keep h.value hk (fun x hx => (h.xv x hx).2.1)
  fa := .inl h.fa
  fd := .inl h.fd
  fV := fun x hx => .inl (h.fV x hx)
  fL := fun x hx => (hF x hx).elim (fun hx => .inl (h.fL x hx)) .inr
  fx := fun x hx => .inl (h.fx x hx)
  fb := grow_fb h.fb h.Ble hk.size
  va := h.va
  la := ⟨fun hx => (hF a hx).elim h.la.1 (fun hx => by have := (h.fb a h.fa).2; omega), fun hx => (hF d hx).elim h.la.2 (fun hx => by have := (h.fb d h.fd).2; omega)⟩
  vl := fun x hx hl => (hF x hl).elim (fun hl => h.vl x hx hl) (fun hl => by have := (h.fb x (h.fV x hx)).2; omega)
  xv := fun x hx => ⟨(h.xv x hx).1, fun hl => (hF x hl).elim (h.xv x hx).2.1 (fun hl => by have := (h.fb x (h.fx x hx)).2; omega), (h.xv x hx).2.2⟩
/-- Behind a call on the dog. -/
theorem HostAt.onDog (h : HostAt B w a m F d v g val FV FL) {s' : Int} (hd : DogIs w' d m.p.watch s') (hk : Keep (fun x => x = d) w w') (hs : w'.heap.size = w.heap.size) : HostAt B w' a { m with since := s' } F d v g val FV FL where
  blk := h.blk.keep hk (fun e => h.ne e)
  dog := hd
  valve := h.valve.keep hk (fun x hx e => h.va.2 (e ▸ hx)) (fun _ h => h)
  log := h.log.keep hk (fun x hx e => h.la.2 (e ▸ hx)) (fun _ h => h)
  value := ownsRow_keep h.value hk (fun x hx e => (h.xv x hx).2.2.2 e)
  fa := h.fa
  fd := h.fd
  fV := h.fV
  fL := h.fL
  fx := h.fx
  fb := by rw [hs]; exact h.fb
  va := h.va
  la := h.la
  vl := h.vl
  xv := h.xv
end
end Go.Proofs.YtfoldlbnkfnenaaGreat
/- A host's inner steps: trip, alive, leave. -/
namespace Go.Proofs.YtfoldlbnkfnenaaGreat
open Go.RowKit
set_option maxHeartbeats 4000000
set_option maxRecDepth 100000

/-- What a call on the host leaves. -/
structure HostTo (B : Nat) (w : World) (a : Nat) (m : HostM) (F : Nat → Prop) (w' : World) : Prop where
  is_ : HostIs B w' a m (grow F w w')
  keep : Keep F w w'
section
variable {B : Nat} {w w1 w2 : World} {a d v g : Nat} {m m1 m2 : HostM} {F F' FV FL : Nat → Prop} {val : Value}
theorem HostAt.mono (h : HostAt B w a m F d v g val FV FL) (hF : ∀ x, F x → F' x) (hb : ∀ x, F' x → B ≤ x ∧ x < w.heap.size) : HostAt B w a m F' d v g val FV FL :=
  { h with fa := hF _ h.fa, fd := hF _ h.fd, fV := fun x hx => hF _ (h.fV x hx), fL := fun x hx => hF _ (h.fL x hx), fx := fun x hx => hF _ (h.fx x hx), fb := hb }
theorem grow_grow (h1 : w.heap.size ≤ w1.heap.size) (h2 : w1.heap.size ≤ w2.heap.size) : ∀ x, grow (grow F w w1) w1 w2 x → grow F w w2 x := by
  intro x hx
  rcases hx with (hx | hx) | hx
  · exact .inl hx
  · exact .inr (by omega)
  · exact .inr (by omega)
theorem HostTo.trans (h0 : HostIs B w a m F) (h1 : HostTo B w a m1 F w1) (h2 : HostTo B w1 a m2 (grow F w w1) w2) : HostTo B w a m2 F w2 := by
  obtain ⟨_, _, _, _, _, _, h0⟩ := h0
  obtain ⟨d, v, g, val, FV, FL, h3⟩ := h2.is_
  have s1 := h1.keep.size
  have s2 := h2.keep.size
  refine ⟨⟨d, v, g, val, FV, FL, h3.mono (grow_grow s1 s2) (grow_fb h0.fb h0.Ble (by omega))⟩, h1.keep.andThen h2.keep ?_⟩
  intro x hx hg
  rcases hg with hg | hg
  · exact hg
  · omega
theorem HostAt.toIs (h0 : HostAt B w a m F d v g val FV FL) {d' v' g' : Nat} {val' : Value} {FV' FL' : Nat → Prop} (h : HostAt B w1 a m1 F' d' v' g' val' FV' FL') (hF : ∀ x, F' x → grow F w w1 x) (hk : Keep F w w1) : HostTo B w a m1 F w1 :=
  ⟨⟨d', v', g', val', FV', FL', h.mono hF (grow_fb h0.fb h0.Ble hk.size)⟩, hk⟩
end
theorem hostS {w : World} {a d v g : Nat} {m : HostM} {val : Value} (h : Blk w a 88 (hostCells m d v g val)) :
    w.cell? ⟨a, 7, none⟩ = some (.pointer (some ⟨g, 0, none⟩)) ∧ w.cell? ⟨a, 9, none⟩ = some (.int .u32 m.session) ∧ w.cell? ⟨a, 10, none⟩ = some (.int .u32 m.number) := ⟨(h.cell 7).trans rfl, (h.cell 9).trans rfl, (h.cell 10).trans rfl⟩
theorem DiagIs.drew {w : World} {a : Nat} {F : Nat → Prop} {L : List Rec} (h : DiagIs w a L F) : DiagIs w.drew a L F := h.keep (S := fun _ => False) ((Keep.refl _ w).drew) (fun _ _ h => h) (fun _ h => h)
theorem HostAt.drew {B : Nat} {w : World} {a d v g : Nat} {m : HostM} {F FV FL : Nat → Prop} {val : Value} (h : HostAt B w a m F d v g val FV FL) : HostAt B w.drew a m F d v g val FV FL :=
  { h with valve := h.valve.keep (S := fun _ => False) ((Keep.refl _ w).drew) (fun _ _ h => h) (fun _ h => h), log := h.log.drew }
theorem hostTrip_any (B a : Nat) (m : HostM) (F : Nat → Prop) (code : Int) (w : World) (hcode : code ≠ 0) (hH : HostIs B w a m F) (hlen : m.log.length < 1073741823) :
    Calls Tryz.prog 71 #[.pointer (some ⟨a, 0, none⟩), .int .i64 code] w fun e w' => e = .returned (.tuple #[]) ∧ HostTo B w a (m.trip code) F w' := by
  obtain ⟨d, v, g, val, FV, FL, hH⟩ := hH
  have hc := hH.blk.cell
  unfold hostCells at hc
  have hcod : (code == 0) = false := by simpa using hcode
  cases htr : (m.valve.trip code).2 with
  | false =>
    have e1 : m.trip code = { m with valve := (m.valve.trip code).1 } := by unfold HostM.trip; simp only [htr]; rfl
    rw [e1]
    go_enter Tryz.func71, Tryz.ntmps71
    go_wp2_with fail
    refine (valveTrip_any v m.valve _ FV code w hcode hH.valve).mono ?_
    rintro e w1 ⟨rfl, hv, hk⟩
    rw [htr]
    go_wp2_with fail
    go_end0
    exact ⟨rfl, hH.toIs (hH.onValve hv hk (fun x hx => .inl hx)) (fun x hx => hx) (hk.mono (fun x _ hx => hH.fV x hx))⟩
  | true =>
    have e1 : m.trip code = { m with valve := (m.valve.trip code).1, log := noteM m.log code m.session m.number } := by unfold HostM.trip; simp only [htr]; rfl
    rw [e1]
    go_enter Tryz.func71, Tryz.ntmps71
    go_wp2_with fail
    refine (valveTrip_any v m.valve _ FV code w hcode hH.valve).mono ?_
    rintro e w1 ⟨rfl, hv, hk⟩
    rw [htr]
    have h1 := (hH.onValve hv hk (fun x hx => .inl hx)).drew
    have hlog := h1.log
    have hb1 := h1.blk
    have hla := h1.la.1
    have hk1 : Keep F w w1.drew := (hk.mono (fun x _ hx => hH.fV x hx)).drew
    clear hc
    have hc := hb1.cell
    unfold hostCells at hc
    go_wp2_with fail
    go_region_held3 (fun w' => w'.cell? ⟨a, 7, none⟩ = some (.pointer (some ⟨g, 0, none⟩)) ∧ w'.cell? ⟨a, 9, none⟩ = some (.int .u32 m.session) ∧ w'.cell? ⟨a, 10, none⟩ = some (.int .u32 m.number)) (exact hostS hb1) (first
      | (go_at_call 50; refine (diagNote_any g m.log FL code m.session m.number _ hcod hlog hlen).mono ?_; rintro e W ⟨rfl, hl2, hk2⟩; replace hb1 := hb1.keep hk2 hla))
    go_wp2_with fail
    go_end0
    have h2 := h1.onLog hl2 hk2 (fun x hx => hx)
    refine ⟨rfl, hH.toIs h2 (fun x hx => grow_grow (w1 := w1.drew) hk1.size hk2.size x hx) (hk1.andThen hk2 (fun x _ hx => hH.fL x hx))⟩
theorem hostAlive_any (B a : Nat) (m : HostM) (F : Nat → Prop) (w : World) (hH : HostIs B w a m F) :
    Calls Tryz.prog 121 #[.pointer (some ⟨a, 0, none⟩)] w fun e w' => e = .returned (.tuple #[]) ∧ HostTo B w a m.alive F w' := by
  obtain ⟨d, v, g, val, FV, FL, hH⟩ := hH
  have hb := hH.blk
  have hc := hb.cell
  have hf := hb.frozen
  have h1 : HostAt B ((w.setCell ⟨a, 12, none⟩ (.bool false)).setCell ⟨a, 13, none⟩ (.int .i64 0)) a { m with waits := false, missed := 0 } F d v g val FV FL :=
    hH.upd (((Keep.refl (fun x => x = a) w).setCell (p := ⟨a, 12, none⟩) (fun _ => rfl) _).setCell (p := ⟨a, 13, none⟩) (fun _ => rfl) _) (by simp [World.setCell])
      (by simpa [hostCells] using (hb.set_ 12 (.bool false)).set_ 13 (.int .i64 0)) rfl rfl rfl rfl rfl
  have hk1 : Keep F w ((w.setCell ⟨a, 12, none⟩ (.bool false)).setCell ⟨a, 13, none⟩ (.int .i64 0)) := ((Keep.refl F w).setCell (p := ⟨a, 12, none⟩) (fun _ => hH.fa) _).setCell (p := ⟨a, 13, none⟩) (fun _ => hH.fa) _
  unfold hostCells at hc
  go_enter Tryz.func121, Tryz.ntmps121
  go_wp2_with fail
  refine (dogFeed_any d _ _ _ h1.dog).mono ?_
  rintro e w2 ⟨rfl, hd2, hW⟩
  have h2 := h1.onDog hd2 (hW ▸ (Keep.refl (fun x => x = d) _).setCell (p := ⟨d, 1, none⟩) (fun _ => rfl) _) (by rw [hW]; simp [World.setCell])
  have hk2 : Keep F w w2 := hW ▸ hk1.setCell (p := ⟨d, 1, none⟩) (fun _ => hH.fd) _
  clear hW hc hf h1 hd2
  have hc := h2.blk.cell
  unfold hostCells at hc
  go_wp2_with fail
  refine (valveFresh_any v m.valve _ FV w2 h2.valve).mono ?_
  rintro e w3 ⟨rfl, hv3, hk3, hs3⟩
  have h3 := h2.onValve hv3 hk3 (fun x hx => .inl hx)
  clear hs3
  go_wp2_with fail
  go_end0
  exact ⟨rfl, hH.toIs h3 (fun x hx => hx.elim .inl (fun hx => .inr ⟨by have := hk2.size; omega, hx.2⟩)) (hk2.andThen hk3 (fun x _ hx => hH.fV x hx))⟩
theorem hostLeave_any (B a : Nat) (m : HostM) (F : Nat → Prop) (w : World) (hH : HostIs B w a m F) :
    Calls Tryz.prog 76 #[.pointer (some ⟨a, 0, none⟩), .int .i64 1] w fun e w' => e = .returned (.tuple #[]) ∧ HostTo B w a m.leave F w' := by
  obtain ⟨d, v, g, val, FV, FL, hH⟩ := hH
  have hc := hH.blk.cell
  unfold hostCells at hc
  go_enter Tryz.func76, Tryz.ntmps76
  go_wp2_with fail
  refine (valveRun_any v m.valve _ FV false w hH.valve).mono ?_
  rintro e w1 ⟨rfl, hv1, hk1, hs1⟩
  have h1 := hH.onValve hv1 hk1 (fun x hx => .inl hx)
  have hb1 := h1.blk
  clear hc hs1
  have hc := hb1.cell
  have hf := hb1.frozen
  unfold hostCells at hc
  go_wp2_with fail
  go_end0
  have hk2 : ∀ S : Nat → Prop, S a → Keep S w1 (((((w1.setCell ⟨a, 8, none⟩ (.int .i64 1)).setCell ⟨a, 10, none⟩ (.int .u32 0)).setCell ⟨a, 11, none⟩ (.int .u32 0)).setCell ⟨a, 12, none⟩ (.bool false)).setCell ⟨a, 13, none⟩ (.int .i64 0)) := fun S hS =>
    (((((Keep.refl S w1).setCell (p := ⟨a, 8, none⟩) (fun _ => hS) _).setCell (p := ⟨a, 10, none⟩) (fun _ => hS) _).setCell (p := ⟨a, 11, none⟩) (fun _ => hS) _).setCell (p := ⟨a, 12, none⟩) (fun _ => hS) _).setCell (p := ⟨a, 13, none⟩) (fun _ => hS) _
  have hz2 : (((((w1.setCell ⟨a, 8, none⟩ (.int .i64 1)).setCell ⟨a, 10, none⟩ (.int .u32 0)).setCell ⟨a, 11, none⟩ (.int .u32 0)).setCell ⟨a, 12, none⟩ (.bool false)).setCell ⟨a, 13, none⟩ (.int .i64 0)).heap.size = w1.heap.size := by simp [World.setCell]
  have h2 : HostAt B (((((w1.setCell ⟨a, 8, none⟩ (.int .i64 1)).setCell ⟨a, 10, none⟩ (.int .u32 0)).setCell ⟨a, 11, none⟩ (.int .u32 0)).setCell ⟨a, 12, none⟩ (.bool false)).setCell ⟨a, 13, none⟩ (.int .i64 0)) a m.leave (grow F w w1) d v g val FV FL :=
    h1.upd (hk2 _ rfl) hz2 (by simpa [hostCells, HostM.leave] using ((((hb1.set_ 8 (.int .i64 1)).set_ 10 (.int .u32 0)).set_ 11 (.int .u32 0)).set_ 12 (.bool false)).set_ 13 (.int .i64 0)) rfl rfl rfl rfl rfl
  exact ⟨rfl, hH.toIs h2 (fun x hx => hx.elim .inl (fun hx => .inr ⟨hx.1, by omega⟩)) ((hk1.mono (fun x _ hx => hH.fV x hx)).andThen (hk2 F hH.fa) (fun _ _ hx => hx))⟩
end Go.Proofs.YtfoldlbnkfnenaaGreat
/- A host's lost and flags. -/
namespace Go.Proofs.YtfoldlbnkfnenaaGreat
open Go.RowKit
set_option maxHeartbeats 4000000
set_option maxRecDepth 100000

theorem HostTo.refl {B : Nat} {w : World} {a : Nat} {m : HostM} {F : Nat → Prop} (h : HostIs B w a m F) : HostTo B w a m F w := by
  obtain ⟨d, v, g, val, FV, FL, h⟩ := h
  exact h.toIs h (fun x hx => .inl hx) (Keep.refl _ _)
theorem hostLost_any (B a : Nat) (m : HostM) (F : Nat → Prop) (w : World) (hH : HostIs B w a m F) (hlen : m.log.length < 1073741823) (hm : 0 ≤ m.missed ∧ m.missed ≤ 1000) :
    Calls Tryz.prog 42 #[.pointer (some ⟨a, 0, none⟩)] w fun e w' => e = .returned (.tuple #[]) ∧ HostTo B w a m.lost F w' := by
  have h0 := hH
  obtain ⟨d, v, g, val, FV, FL, hH⟩ := hH
  have hb := hH.blk
  have hc := hb.cell
  have hf := hb.frozen
  unfold hostCells at hc
  by_cases h1 : m.state = 1
  · have e1 : m.lost = m := by unfold HostM.lost; rw [if_pos (.inl h1)]
    rw [e1]
    rw [h1] at hc
    go_enter Tryz.func42, Tryz.ntmps42
    go_wp2_with fail
    first | go_end0 | refine bodyPost_ret (results_none rfl _ _ _) rfl ?_
    exact ⟨rfl, HostTo.refl h0⟩
  have g1 : (m.state == 1) = false := by simpa using h1
  cases hw : m.waits with
  | false =>
    have e1 : m.lost = m := by unfold HostM.lost; rw [if_pos (.inr hw)]
    rw [e1]
    rw [hw] at hc
    go_enter Tryz.func42, Tryz.ntmps42
    go_wp2_with fail
    first | go_end0 | refine bodyPost_ret (results_none rfl _ _ _) rfl ?_
    exact ⟨rfl, HostTo.refl h0⟩
  | true =>
    rw [hw] at hc
    have hwr : IntKind.i64.wrap (m.missed + 1) = m.missed + 1 := IntWalk.i64_in _ (by omega)
    have hno : ¬ (m.state = 1 ∨ m.waits = false) := by rw [hw]; simp [h1]
    have hA : HostAt B (w.setCell ⟨a, 13, none⟩ (.int .i64 (m.missed + 1))) a { m with missed := m.missed + 1 } F d v g val FV FL :=
      hH.upd ((Keep.refl (fun x => x = a) w).setCell (p := ⟨a, 13, none⟩) (fun _ => rfl) _) (by simp [World.setCell])
        (by simpa [hostCells, hw] using hb.set_ 13 (.int .i64 (m.missed + 1))) rfl rfl rfl rfl rfl
    have hkA : Keep F w (w.setCell ⟨a, 13, none⟩ (.int .i64 (m.missed + 1))) := (Keep.refl F w).setCell (p := ⟨a, 13, none⟩) (fun _ => hH.fa) _
    have toA := hH.toIs hA (fun x hx => .inl hx) hkA
    by_cases h4 : m.missed + 1 < 4
    · have e1 : m.lost = { m with missed := m.missed + 1 } := by unfold HostM.lost; rw [if_neg hno]; simp only; rw [if_pos h4]
      rw [e1]
      clear hno e1
      go_enter Tryz.func42, Tryz.ntmps42
      go_wp2_with fail
      first | go_end0 | refine bodyPost_ret (results_none rfl _ _ _) rfl ?_
      exact ⟨rfl, toA⟩
    by_cases h5 : m.state = 4
    · have e1 : m.lost = (({ m with missed := m.missed + 1 } : HostM).trip 131).leave := by unfold HostM.lost; rw [if_neg hno]; simp only; rw [if_neg h4, if_pos h5]
      rw [e1]
      clear hno e1
      rw [h5] at hc
      go_enter Tryz.func42, Tryz.ntmps42
      go_wp2_with fail
      refine (hostTrip_any B a { m with missed := m.missed + 1 } F 131 _ (by decide) ⟨d, v, g, val, FV, FL, hA⟩ hlen).mono ?_
      rintro e w2 ⟨rfl, t2⟩
      go_wp2_with fail
      refine (hostLeave_any B a _ _ w2 t2.is_).mono ?_
      rintro e w3 ⟨rfl, t3⟩
      go_wp2_with fail
      first | go_end0 | refine bodyPost_ret (results_none rfl _ _ _) rfl ?_
      have t4 := HostTo.trans ⟨d, v, g, val, FV, FL, hA⟩ t2 t3
      refine ⟨rfl, ?_, hkA.andThen t4.keep (fun _ _ h => h)⟩
      obtain ⟨d', v', g', val', FV', FL', hx⟩ := t4.is_
      exact ⟨d', v', g', val', FV', FL', hx.mono (fun x hx => hx.elim .inl (fun hx => .inr ⟨by simpa [World.setCell] using hx.1, hx.2⟩)) (grow_fb hH.fb hH.Ble (by have := t4.keep.size; simp [World.setCell] at this; omega))⟩
    · have e1 : m.lost = ({ m with missed := m.missed + 1 } : HostM).leave := by unfold HostM.lost; rw [if_neg hno]; simp only; rw [if_neg h4, if_neg h5]
      rw [e1]
      clear hno e1
      have g5 : (m.state == 4) = false := by simpa using h5
      go_enter Tryz.func42, Tryz.ntmps42
      go_wp2_with fail
      refine (hostLeave_any B a { m with missed := m.missed + 1 } F _ ⟨d, v, g, val, FV, FL, hA⟩).mono ?_
      rintro e w3 ⟨rfl, t4⟩
      go_wp2_with fail
      first | go_end0 | refine bodyPost_ret (results_none rfl _ _ _) rfl ?_
      refine ⟨rfl, ?_, hkA.andThen t4.keep (fun _ _ h => h)⟩
      obtain ⟨d', v', g', val', FV', FL', hx⟩ := t4.is_
      exact ⟨d', v', g', val', FV', FL', hx.mono (fun x hx => hx.elim .inl (fun hx => .inr ⟨by simpa [World.setCell] using hx.1, hx.2⟩)) (grow_fb hH.fb hH.Ble (by have := t4.keep.size; simp [World.setCell] at this; omega))⟩
theorem hostFlags_any (B a : Nat) (m : HostM) (N : Nat) (F : Nat → Prop) (w : World) (hH : HostIs B w a m F) (hN : m.p.inn = (N : Int)) (hN8 : N ≤ 8) (hval : ∀ b, m.valve.value = some b → b.length = N) :
    Calls Tryz.prog 80 #[.pointer (some ⟨a, 0, none⟩)] w fun e w' => e = .returned (.int .i64 (flagsM m.valve m.hold)) ∧ Below w.heap.size w w' := by
  obtain ⟨d, v, g, val, FV, FL, hH⟩ := hH
  have hc := hH.blk.cell
  unfold hostCells at hc
  have hv := hH.valve
  rw [hN] at hv
  have or_0_1 : bits .or .i64 0 1 = 1 := by kernel_rfl
  have or_0_2 : bits .or .i64 0 2 = 2 := by kernel_rfl
  have or_1_2 : bits .or .i64 1 2 = 3 := by kernel_rfl
  have or_0_4 : bits .or .i64 0 4 = 4 := by kernel_rfl
  have or_1_4 : bits .or .i64 1 4 = 5 := by kernel_rfl
  have or_2_4 : bits .or .i64 2 4 = 6 := by kernel_rfl
  have or_3_4 : bits .or .i64 3 4 = 7 := by kernel_rfl
  have or_0_8 : bits .or .i64 0 8 = 8 := by kernel_rfl
  have or_1_8 : bits .or .i64 1 8 = 9 := by kernel_rfl
  have or_2_8 : bits .or .i64 2 8 = 10 := by kernel_rfl
  have or_3_8 : bits .or .i64 3 8 = 11 := by kernel_rfl
  have or_4_8 : bits .or .i64 4 8 = 12 := by kernel_rfl
  have or_5_8 : bits .or .i64 5 8 = 13 := by kernel_rfl
  have or_6_8 : bits .or .i64 6 8 = 14 := by kernel_rfl
  have or_7_8 : bits .or .i64 7 8 = 15 := by kernel_rfl
  obtain ⟨fl, Hfl⟩ : ∃ x, Hid (x = flagsM m.valve m.hold) := ⟨_, Lib.hid rfl⟩
  rw [← Hfl.out]
  go_enter Tryz.func80, Tryz.ntmps80
  go_wp2_with fail
  refine (valveOutput_any v m.valve N FV w hv hN8 hval).mono ?_
  rintro e w1 ⟨x, rfl, hownx, hlx, hb1⟩
  have hv1 := hv.keep (F' := FV) (S := fun _ => False) (Keep.of_below hb1) (fun _ _ h => h) (fun _ h => h)
  have hc1 := ((hH.blk).below hb1 hH.blk.lt).cell
  unfold hostCells at hc1
  obtain ⟨Ax, cx, rfl⟩ := own_slice hownx
  clear hc hownx hlx hval hv
  have hq := valveRequest_any v m.valve _ FV w1 hv1
  have hl := valveLatched_any v m.valve _ FV w1 hv1
  cases hon : m.valve.on <;> cases hrq : m.valve.request <;> cases hlt : (m.valve.latched != 0) <;> cases hho : m.hold
  all_goals
    rw [hrq] at hq
    rw [hho] at hc1
    go_wp2_with fail
    refine hq.mono ?_
    rintro e w2 ⟨rfl, rfl⟩
    go_wp2_with fail
    refine hl.mono ?_
    rintro e w2 ⟨rfl, rfl⟩
    go_wp2_with fail
    go_ret
    refine ⟨?_, hb1⟩
    have e1 : (m.valve.latched = 0) = (¬ (m.valve.latched != 0) = true) := by simp
    rw [Hfl.out]
    unfold flagsM
    simp only [hon, hrq, hho, e1, hlt]
    rfl
end Go.Proofs.YtfoldlbnkfnenaaGreat
/- unit.Decode by its contract. -/
namespace Go.Proofs.YtfoldlbnkfnenaaGreat
open Go.RowKit
set_option maxHeartbeats 10000000
set_option maxRecDepth 100000

theorem Blk.store6 {w : World} {g : Nat} {t : TypeId} {a0 a1 a2 a3 a4 a5 : Value} (h : Blk w g t #[a0, a1, a2, a3, a4, a5]) (b0 b1 b2 b3 b4 b5 : Value) :
    Blk ((((((w.setCell ⟨g, 0, none⟩ b0).setCell ⟨g, 1, none⟩ b1).setCell ⟨g, 2, none⟩ b2).setCell ⟨g, 3, none⟩ b3).setCell ⟨g, 4, none⟩ b4).setCell ⟨g, 5, none⟩ b5) g t #[b0, b1, b2, b3, b4, b5] := by
  have := (((((h.set_ 0 b0).set_ 1 b1).set_ 2 b2).set_ 3 b3).set_ 4 b4).set_ 5 b5
  simpa using this
theorem below_store6 {B : Nat} {w0 w : World} {g : Nat} (h : Below B w0 w) (hg : B ≤ g) (b0 b1 b2 b3 b4 b5 : Value) :
    Below B w0 ((((((w.setCell ⟨g, 0, none⟩ b0).setCell ⟨g, 1, none⟩ b1).setCell ⟨g, 2, none⟩ b2).setCell ⟨g, 3, none⟩ b3).setCell ⟨g, 4, none⟩ b4).setCell ⟨g, 5, none⟩ b5) :=
  (((((h.setCell hg b0).setCell hg b1).setCell hg b2).setCell hg b3).setCell hg b4).setCell hg b5
/-- The same memory (draws are nobody's). -/
structure Same (w w' : World) : Prop where
  heap : w'.heap = w.heap
  os : w'.os = w.os
  tape : w'.tape = w.tape
  output : w'.output = w.output
theorem Same.refl (w : World) : Same w w := ⟨rfl, rfl, rfl, rfl⟩
theorem Same.of {w w1 w' : World} {k : Nat} (h : w' = w1.drewN k) (e : Same w w1) : Same w w' := by
  subst h
  exact ⟨e.heap, e.os, e.tape, e.output⟩
theorem Blk.same {w w' : World} {g : Nat} {t : TypeId} {cs : Array Value} (h : Blk w g t cs) (e : Same w w') : Blk w' g t cs := by
  unfold Blk at h ⊢
  rw [e.heap]
  exact h
theorem Reads.same {w w' : World} {B size n : Nat} {A : Option Addr} {xs : List Value} (h : Reads w B size A n xs) (e : Same w w') : Reads w' B size A n xs :=
  h.keep fun p _ => by unfold World.cell?; rw [e.heap]
theorem below_same {B : Nat} {w0 w w' : World} (h : Below B w0 w) (e : Same w w') : Below B w0 w' :=
  ⟨e.os.trans h.os, e.tape.trans h.tape, e.output.trans h.output, by rw [e.heap]; exact h.size, fun k hk => by rw [e.heap]; exact h.block k hk⟩
theorem size_same {B : Nat} {w w' : World} (h : B ≤ w.heap.size) (e : Same w w') : B ≤ w'.heap.size := by rw [e.heap]; exact h
theorem size_drew {B : Nat} {w : World} (h : B ≤ w.heap.size) : B ≤ w.drew.heap.size := h
theorem size_alloc {B : Nat} {w : World} (h : B ≤ w.heap.size) (o : Obj) : B ≤ (w.alloc o).heap.size := by simp; omega
theorem Reads.sub {w : World} {B : Nat} {ad : Addr} {n : Nat} {xs : List Value} (h : Reads w B 1 (some ad) n xs) (i m : Nat) (him : i + m ≤ n) : Reads w B 1 (some (ad.add i)) m ((xs.drop i).take m) := by
  refine ⟨by rw [List.length_take, List.length_drop, h.1]; omega, fun hm => ?_⟩
  obtain ⟨ad', e, hb, hc⟩ := h.2 (by omega)
  injection e with e
  subst e
  refine ⟨_, rfl, by rw [block_of_add]; exact hb, fun j u hu => ?_⟩
  rw [add_of_add]
  rw [List.getElem?_take] at hu
  split at hu
  · rw [List.getElem?_drop] at hu
    exact hc _ u hu
  · cases hu
theorem Reads.byte {w : World} {B : Nat} {ad : Addr} {n : Nat} {l : List UInt8} (h : Reads w B 1 (some ad) n (u8c l)) (i : Nat) (hi : i < n) : w.cell? (ad.add i) = some (.int .u8 ((l.getD i 0).toNat : Int)) := by
  obtain ⟨ad', e, hb, hc⟩ := h.2 (by omega)
  injection e with e
  subst e
  have hl : i < l.length := by have := h.1; simp [u8c] at this; omega
  apply hc
  rw [u8c_get]
  simp [List.getD, hl]
theorem Reads.two {w : World} {B : Nat} {ad : Addr} {n : Nat} {l : List UInt8} {b0 b13 : UInt8} (h : Reads w B 1 (some ad) n (u8c l)) (hn : 13 < n) (e0 : Hid (b0 = l.getD 0 0)) (e13 : Hid (b13 = l.getD 13 0)) :
    w.cell? ad = some (.int .u8 (b0.toNat : Int)) ∧ w.cell? ⟨ad.block, ad.off + 13, none⟩ = some (.int .u8 (b13.toNat : Int)) := by
  rw [e0.out, e13.out]
  exact ⟨h.byte 0 (by omega), h.byte 13 hn⟩
theorem Blk.far6 {w : World} {g g' : Nat} {t : TypeId} {cs : Array Value} (h : Blk w g t cs) (hne : g < g') (b0 b1 b2 b3 b4 b5 : Value) :
    Blk ((((((w.setCell ⟨g', 0, none⟩ b0).setCell ⟨g', 1, none⟩ b1).setCell ⟨g', 2, none⟩ b2).setCell ⟨g', 3, none⟩ b3).setCell ⟨g', 4, none⟩ b4).setCell ⟨g', 5, none⟩ b5) g t cs :=
  have e : ∀ j, g ≠ (⟨g', j, none⟩ : Addr).block := fun _ => Nat.ne_of_lt hne
  (((((h.far (e 0) b0).far (e 1) b1).far (e 2) b2).far (e 3) b3).far (e 4) b4).far (e 5) b5
theorem Reads.store6 {w : World} {B size n g : Nat} {A : Option Addr} {xs : List Value} (h : Reads w B size A n xs) (hg : B ≤ g) (b0 b1 b2 b3 b4 b5 : Value) :
    Reads ((((((w.setCell ⟨g, 0, none⟩ b0).setCell ⟨g, 1, none⟩ b1).setCell ⟨g, 2, none⟩ b2).setCell ⟨g, 3, none⟩ b3).setCell ⟨g, 4, none⟩ b4).setCell ⟨g, 5, none⟩ b5) B size A n xs :=
  (((((h.setCell hg b0).setCell hg b1).setCell hg b2).setCell hg b3).setCell hg b4).setCell hg b5
theorem unitGet_at (i : Nat) (ad : Addr) (n m c B : Nat) (l : List UInt8) (w : World) (hi : 0 < i) (hm : 4 ≤ m) (him : i + 4 ≤ n) (h : Reads w B 1 (some ad) n (u8c l)) :
    Calls Tryz.prog 119 #[.slice (some ⟨ad.block, ad.off + i, none⟩) m c] w fun e w' => e = .returned (.int .u32 (numAt l i)) ∧ ∃ k, w' = w.drewN k := by
  have e : ad.add i = ⟨ad.block, ad.off + i, none⟩ := by unfold Addr.add; rw [if_neg (by omega)]
  have g : ∀ j, (⟨ad.block, ad.off + i, none⟩ : Addr).add j = ad.add (i + j) := fun j => by rw [← e, add_of_add]
  refine unitGet_any _ m c (l.getD i 0) (l.getD (i + 1) 0) (l.getD (i + 2) 0) (l.getD (i + 3) 0) w hm ?_ ?_ ?_ ?_ <;> rw [g]
  · exact h.byte (i + 0) (by omega)
  · exact h.byte (i + 1) (by omega)
  · exact h.byte (i + 2) (by omega)
  · exact h.byte (i + 3) (by omega)
theorem u8c_sub (l : List UInt8) (i m : Nat) : ((u8c l).drop i).take m = u8c ((l.drop i).take m) := by simp [u8c, List.map_drop, List.map_take]
theorem numAt_nonneg (l : List UInt8) (i : Nat) : 0 ≤ numAt l i := by unfold numAt; omega
theorem lawful_head (k c s n f : Int) (d d' : List UInt8) : ((UnitM.mk k c s n f d).lawful = 43 ↔ (UnitM.mk k c s n f d').lawful = 43) ∧ ((UnitM.mk k c s n f d).lawful = 44 ↔ (UnitM.mk k c s n f d').lawful = 44) := by
  have key : ∀ d : List UInt8, ((UnitM.mk k c s n f d).lawful = 43 ↔ (!isHost k && !isDev k) = true) ∧ ((UnitM.mk k c s n f d).lawful = 44 ↔ (!isHost k && !isDev k) = false ∧ (c == 0) = true) := by
    intro d
    unfold UnitM.lawful
    simp only
    cases h1 : (!isHost k && !isDev k) with
    | true => simp
    | false =>
      cases h2 : (c == 0) with
      | true => simp
      | false =>
        simp only [Bool.false_eq_true, if_false]
        split
        · simp
        split
        · simp
        split
        · simp
        split <;> simp
  rw [(key d).1, (key d').1, (key d).2, (key d').2]
  exact ⟨Iff.rfl, Iff.rfl⟩
theorem unitDecode_any (A : Option Addr) (n c B : Nat) (l : List UInt8) (w : World) (hr : Reads w B 1 A n (u8c l)) (hB : B ≤ w.heap.size) (hc : n ≤ c) (hn : n ≤ 140737488351232) :
    Calls Tryz.prog 88 #[.slice A n c] w fun e w' => ∃ v, e = .returned (.tuple #[unitVal (decodeM l).1 v, .int .i64 (decodeM l).2]) ∧ w'.ownsRow w.heap.size 5 1 v (decodeM l).1.data.length (u8c (decodeM l).1.data) ∧ Below w.heap.size w w' := by
  have hl : l.length = n := by have := hr.1; simpa [u8c] using this
  have hbz : Below w.heap.size w (w.alloc (.cells #[.int .i64 0, .int .u32 0, .int .u32 0, .int .u32 0, .int .i64 0, .slice none 0 0] 60)) := (Below.refl _ _).alloc (Nat.le_refl _) _
  by_cases h19 : n < 19
  · have e : decodeM l = (.zero, 40) := by unfold decodeM; rw [if_pos (by omega)]
    rw [e]
    clear e
    go_enter Tryz.func88, Tryz.ntmps88
    go_wp2_with fail
    refine bodyPost_ret (v := .tuple #[unitVal .zero (.slice none 0 0), .int .i64 40]) (by simp [results, Tryz.results88, go_sem, unitVal, UnitM.zero]) rfl ⟨_, rfl, World.ownsRow_nil _ _ _ _, hbz⟩
  by_cases h27 : 27 < n
  · have e : decodeM l = (.zero, 41) := by unfold decodeM; rw [if_neg (by omega), if_pos (by omega)]
    rw [e]
    clear e
    go_enter Tryz.func88, Tryz.ntmps88
    go_wp2_with fail
    refine bodyPost_ret (v := .tuple #[unitVal .zero (.slice none 0 0), .int .i64 41]) (by simp [results, Tryz.results88, go_sem, unitVal, UnitM.zero]) rfl ⟨_, rfl, World.ownsRow_nil _ _ _ _, hbz⟩
  have hrz := hr.alloc hB (.cells #[.int .i64 0, .int .u32 0, .int .u32 0, .int .u32 0, .int .i64 0, .slice none 0 0] 60)
  cases hcrc : (crcOf 0#32 l == 0#32) with
  | false =>
    have hcrc' : crcOf 0#32 l ≠ 0#32 := by simpa using hcrc
    have e : decodeM l = (.zero, 42) := by unfold decodeM; rw [if_neg (by omega), if_neg (by omega), if_pos hcrc']
    rw [e]
    clear e hcrc'
    go_enter Tryz.func88, Tryz.ntmps88
    go_wp2_with fail
    refine (crcValid_any A n c l B _ hrz (by omega) (by omega)).mono ?_
    rintro e w1 ⟨rfl, k, rfl⟩
    rw [hcrc]
    have hz2 := (Blk.new w 60 #[.int .i64 0, .int .u32 0, .int .u32 0, .int .u32 0, .int .i64 0, .slice none 0 0]).drewN k
    have hb2 := belowN hbz k
    obtain ⟨g, Hg⟩ : ∃ g, Hid (g = w.heap.size) := ⟨_, Lib.hid rfl⟩
    rw [← Hg.out] at hz2 ⊢
    generalize (w.alloc (.cells #[.int .i64 0, .int .u32 0, .int .u32 0, .int .u32 0, .int .i64 0, .slice none 0 0] 60)).drewN k = W2 at *
    have hcz := hz2.cell
    have hfz := hz2.frozen
    clear hrz hbz
    go_wp2_with fail
    have hB3 := hz2.store6 (.int .i64 0) (.int .u32 0) (.int .u32 0) (.int .u32 0) (.int .i64 0) (.slice none 0 0)
    have hb3 := below_store6 hb2 (g := g) (by have := Hg.out; omega) (.int .i64 0) (.int .u32 0) (.int .u32 0) (.int .u32 0) (.int .i64 0) (.slice none 0 0)
    clear hcz hfz
    generalize (((((W2.setCell ⟨g, 0, none⟩ _).setCell ⟨g, 1, none⟩ _).setCell ⟨g, 2, none⟩ _).setCell ⟨g, 3, none⟩ _).setCell ⟨g, 4, none⟩ _).setCell ⟨g, 5, none⟩ _ = W3 at *
    have hcz := hB3.cell
    refine bodyPost_ret (v := .tuple #[unitVal .zero (.slice none 0 0), .int .i64 42]) (by simp [results, Tryz.results88, go_sem, unitVal, UnitM.zero, hcz]) rfl ⟨_, rfl, World.ownsRow_nil _ _ _ _, hb3⟩
  | true =>
    obtain ⟨ad, rfl⟩ : ∃ ad, A = some ad := by
      obtain ⟨ad, h, _⟩ := hr.2 (by omega)
      exact ⟨ad, h⟩
    have hadB : ad.block < B := by
      obtain ⟨ad', e, h, _⟩ := hr.2 (by omega)
      injection e with e
      rw [e]
      exact h
    obtain ⟨n', rfl⟩ : ∃ n', n = n' + 19 := ⟨n - 19, by omega⟩
    have hn8 : n' ≤ 8 := by omega
    obtain ⟨dm, Hdm⟩ : ∃ d, Hid (d = decodeM l) := ⟨_, Lib.hid rfl⟩
    obtain ⟨um, Hum⟩ : ∃ u, Hid (u = unitOf l) := ⟨_, Lib.hid rfl⟩
    obtain ⟨b0, Hb0⟩ : ∃ b, Hid (b = l.getD 0 0) := ⟨_, Lib.hid rfl⟩
    obtain ⟨b13, Hb13⟩ : ∃ b, Hid (b = l.getD 13 0) := ⟨_, Lib.hid rfl⟩
    obtain ⟨b14, Hb14⟩ : ∃ b, Hid (b = l.getD 14 0) := ⟨_, Lib.hid rfl⟩
    rw [← Hdm.out]
    have Hcrc := Lib.hid hcrc
    go_enter Tryz.func88, Tryz.ntmps88
    go_wp2_with fail
    refine (crcValid_any (some ad) _ c l B _ hrz (by omega) (by omega)).mono ?_
    rintro e w1 ⟨rfl, k, rfl⟩
    rw [hcrc]
    have hz2 := (Blk.new w 60 #[.int .i64 0, .int .u32 0, .int .u32 0, .int .u32 0, .int .i64 0, .slice none 0 0]).drewN k
    have hb2 := belowN hbz k
    have hr2 := hrz.drewN k
    have hs2 := hz2.lt
    obtain ⟨g, Hg⟩ : ∃ g, Hid (g = w.heap.size) := ⟨_, Lib.hid rfl⟩
    rw [← Hg.out] at hz2 hs2 ⊢
    generalize (w.alloc (.cells #[.int .i64 0, .int .u32 0, .int .u32 0, .int .u32 0, .int .i64 0, .slice none 0 0] 60)).drewN k = W2 at *
    clear hrz hbz hr hcrc
    go_upto_region 8 with fail
    have hsW := hb2.size
    go_cut [5] from 27 to 76 (fun v5 wc => ∃ g5, v5 = .pointer (some ⟨g5, 0, none⟩) ∧ g < g5 ∧ Blk wc g5 60 #[.int .i64 (b0.toNat : Int), .int .u32 (numAt l 1), .int .u32 (numAt l 5), .int .u32 (numAt l 9), .int .i64 (b13.toNat : Int), .slice none 0 0] ∧
      Blk wc g 60 #[.int .i64 0, .int .u32 0, .int .u32 0, .int .u32 0, .int .i64 0, .slice none 0 0] ∧ Reads wc B 1 (some ad) (n' + 19) (u8c l) ∧ Below w.heap.size w wc)
    case first =>
      have i0 : (0 : Int) < (n' : Int) + 19 := by omega
      have i13 : (13 : Int) < (n' : Int) + 19 := by omega
      have i1 : (1 : Int) ≤ (n' : Int) + 19 := by omega
      have i5 : (5 : Int) ≤ (n' : Int) + 19 := by omega
      have i9 : (9 : Int) ≤ (n' : Int) + 19 := by omega
      have c1 : ¬ c = 1 := by omega
      have c5 : ¬ c = 5 := by omega
      have c9 : ¬ c = 9 := by omega
      have ic : ((n' : Int) + 19) ≤ (c : Int) := by omega
      have hwr0 : IntKind.i64.wrap (b0.toNat : Int) = (b0.toNat : Int) := by have := b0.toNat_lt; exact IntWalk.i64_in _ (by omega)
      have hwr13 : IntKind.i64.wrap (b13.toNat : Int) = (b13.toNat : Int) := by have := b13.toNat_lt; exact IntWalk.i64_in _ (by omega)
      have hBW0 : B ≤ W2.heap.size := by omega
      have hBW := size_drew hBW0
      have hr0 := hr2
      have hz0 := hz2
      have hb0 := hb2
      replace hr2 := hr2.drew
      replace hz2 := hz2.drew
      replace hb2 := hb2.drew
      have p13 : 13 < n' + 19 := by omega
      go_wp2_with fail
      go_region_held3 (fun w' => w'.cell? ad = some (.int .u8 (b0.toNat : Int)) ∧ w'.cell? ⟨ad.block, ad.off + 13, none⟩ = some (.int .u8 (b13.toNat : Int))) (with_reducible (first | exact hr2.two p13 Hb0 Hb13 | exact (hr2.alloc hBW _).two p13 Hb0 Hb13 | exact (hr0.alloc hBW0 _).drew.two p13 Hb0 Hb13 | exact (hr2.store6 hBN _ _ _ _ _ _).two p13 Hb0 Hb13)) (first
        | (go_at_call 119; refine (unitGet_at _ ad (n' + 19) _ _ B l _ ?_ ?_ ?_ ?_).mono ?_; omega; omega; omega; with_reducible exact hr2; rintro e W ⟨rfl, k1, hW⟩; replace hz2 := hz2.same (Same.of hW (Same.refl _)); replace hb2 := below_same hb2 (Same.of hW (Same.refl _)); replace hBW := size_same hBW (Same.of hW (Same.refl _)); (try (replace hN := hN.same (Same.of hW (Same.refl _)); replace hNc := hN.cell; replace hNf := hN.frozen)); replace hr2 := hr2.same (Same.of hW (Same.refl _)); clear hW)
        | (go_at_call 119; refine (unitGet_at _ ad (n' + 19) _ _ B l _ ?_ ?_ ?_ ?_).mono ?_; omega; omega; omega; with_reducible exact hr2.alloc hBW _; rintro e W ⟨rfl, k1, hW⟩; have hBN := hBW; have hgN := hz2.lt; have hgW := hb2.size; replace hz2 := (hz2.alloc _).same (Same.of hW (Same.refl _)); replace hb2 := below_same (hb2.alloc hb2.size _) (Same.of hW (Same.refl _)); have hN := (Blk.new _ 60 #[.int .i64 0, .int .u32 0, .int .u32 0, .int .u32 0, .int .i64 0, .slice none 0 0]).same (Same.of hW (Same.refl _)); have hNc := hN.cell; have hNf := hN.frozen; replace hr2 := (hr2.alloc hBW _).same (Same.of hW (Same.refl _)); replace hBW := size_same (size_alloc hBW _) (Same.of hW (Same.refl _)); clear hW)
        | (go_at_call 119; refine (unitGet_at _ ad (n' + 19) _ _ B l _ ?_ ?_ ?_ ?_).mono ?_; omega; omega; omega; with_reducible exact (hr0.alloc hBW0 _).drew; rintro e W ⟨rfl, k1, hW⟩; have hBN := hBW0; have hgN := hz0.lt; have hgW := hb0.size; replace hz2 := ((hz0.alloc _).drew).same (Same.of hW (Same.refl _)); replace hb2 := below_same ((hb0.alloc hb0.size _).drew) (Same.of hW (Same.refl _)); have hN := ((Blk.new _ 60 #[.int .i64 0, .int .u32 0, .int .u32 0, .int .u32 0, .int .i64 0, .slice none 0 0]).drew).same (Same.of hW (Same.refl _)); have hNc := hN.cell; have hNf := hN.frozen; replace hr2 := ((hr0.alloc hBW0 _).drew).same (Same.of hW (Same.refl _)); replace hBW := size_same (size_drew (size_alloc hBW0 _)) (Same.of hW (Same.refl _)); clear hW))
      all_goals (go_wp2_with fail; go_meet)
      all_goals first
        | exact ⟨_, rfl, hz2.lt, Blk.new _ _ _, hz2.alloc _, hr2.alloc hBW _, hb2.alloc hb2.size _⟩
        | exact ⟨_, rfl, hgN, hN.store6 _ _ _ _ _ _, hz2.far6 hgN _ _ _ _ _ _, hr2.store6 hBN _ _ _ _ _ _, below_store6 hb2 hgW _ _ _ _ _ _⟩
    case rest =>
      obtain ⟨g5, rfl, hg5, hB5, hz5, hr5, hb5⟩ := hcut
      obtain ⟨W5, rfl⟩ : ∃ W : World, W = wc := ⟨_, rfl⟩
      clear hb2 hr2 hs2 hz2 hsW
      obtain ⟨data, Hdata⟩ : ∃ d, Hid (d = (l.drop 15).take n') := ⟨_, Lib.hid rfl⟩
      have hdl : data.length = n' := by rw [Hdata.out, List.length_take, List.length_drop]; omega
      have hrd : Reads W5 B 1 (some ⟨ad.block, ad.off + 15, none⟩) n' (u8c data) := by
        have := hr5.sub 15 n' (by omega)
        rw [u8c_sub, ← Hdata.out] at this
        exact this
      have h14c : W5.cell? ⟨ad.block, ad.off + 14, none⟩ = some (.int .u8 (b14.toNat : Int)) := by
        have := hr5.byte 14 (by omega)
        rw [← Hb14.out] at this
        exact this
      have Hunit : Hid (unitOf l = ⟨b0.toNat, numAt l 1, numAt l 5, numAt l 9, b13.toNat, data⟩) := Lib.hid (by
        unfold unitOf
        rw [← Hb0.out, ← Hb13.out, Hdata.out, hl, show n' + 19 - 19 = n' by omega])
      have Hdm2 : Hid (dm = (if (if (unitOf l).lawful ≠ 43 ∧ (unitOf l).lawful ≠ 44 ∧ (b14.toNat) ≠ (unitOf l).data.length then 45 else (unitOf l).lawful) ≠ 0 then (.zero, (if (unitOf l).lawful ≠ 43 ∧ (unitOf l).lawful ≠ 44 ∧ (b14.toNat) ≠ (unitOf l).data.length then 45 else (unitOf l).lawful)) else (unitOf l, 0))) := Lib.hid (by
        have hc0 : ¬ crcOf 0#32 l ≠ 0#32 := by have := Hcrc.out; simpa using this
        rw [Hdm.out, Hb14.out]
        unfold decodeM
        rw [if_neg (by omega), if_neg (by omega), if_neg hc0])
      clear Hdm Hcrc Hum hr5
      have n1 := numAt_nonneg l 5
      have n2 := numAt_nonneg l 9
      generalize numAt l 1 = q1 at *
      generalize numAt l 5 = q5 at *
      generalize numAt l 9 = q9 at *
      have hw14 : IntKind.i64.wrap (b14.toNat : Int) = (b14.toNat : Int) := by have := b14.toNat_lt; exact IntWalk.i64_in _ (by omega)
      have hcz := hz5.cell
      have hcf := hz5.frozen
      have hc5 := hB5.cell
      have hf5 := hB5.frozen
      have hsz5 := hb5.size
      by_cases h14 : b14.toNat = n'
      · have hq14 : ((b14.toNat : Int) == (n' : Int)) = true := by simp; omega
        have hq14' : ((b14.toNat : Int) != (n' : Int)) = false := by simp; omega
        have Hdm3 : Hid (dm = (if (UnitM.mk b0.toNat q1 q5 q9 b13.toNat data).lawful ≠ 0 then (.zero, (UnitM.mk b0.toNat q1 q5 q9 b13.toNat data).lawful) else (⟨b0.toNat, q1, q5, q9, b13.toNat, data⟩, 0))) := Lib.hid (by
          have e14 : ¬ ((UnitM.mk b0.toNat q1 q5 q9 b13.toNat data).lawful ≠ 43 ∧ (UnitM.mk b0.toNat q1 q5 q9 b13.toNat data).lawful ≠ 44 ∧ b14.toNat ≠ data.length) := fun h => h.2.2 (by rw [hdl]; exact h14)
          rw [Hdm2.out, Hunit.out, if_neg e14])
        have hlaw := fun A c w => unitLawful_any ⟨b0.toNat, q1, q5, q9, b13.toNat, data⟩ A c w n1 n2
        have Hlaw0 := Lib.hid (@UnitM.lawful_len ⟨b0.toNat, q1, q5, q9, b13.toNat, data⟩)
        unfold unitVal at hlaw
        simp only [hdl] at hlaw
        generalize (UnitM.mk b0.toNat q1 q5 q9 b13.toNat data).lawful = law at *
        clear Hdm2 Hunit Hlaw0
        go_wp2_with fail
        refine (cloneByte_any (some ⟨ad.block, ad.off + 15, none⟩) n' _ data B W5 (fun h => by cases h) hrd (by omega) (by omega)).mono ?_
        rintro e W6 ⟨v6, rfl, hown6, _, _, hb6⟩
        obtain ⟨A6, c6, rfl⟩ := own_slice hown6
        have hB6 := hB5.below hb6 hB5.lt
        have hz6 := hz5.below hb6 hz5.lt
        have hc6 := hB6.cell
        have hf6 := hB6.frozen
        have hb6' := hb5.trans (hb6.mono hsz5)
        have hblk6 : ∀ x, (Value.slice A6 n' c6).ownBlock = some x → W5.heap.size ≤ x := fun x hx => (hown6.lt x hx).1
        have hl5 := hB5.lt
        clear hcz hcf hc5 hf5
        go_wp2_with fail
        refine (hlaw _ _ _).mono ?_
        rintro e W7 ⟨rfl, hb7⟩
        have hB7 : Blk W7 g5 60 #[.int .i64 (b0.toNat : Int), .int .u32 q1, .int .u32 q5, .int .u32 q9, .int .i64 (b13.toNat : Int), .slice A6 n' c6] := by
          have := (hB6.set_ 5 (.slice A6 n' c6)).below hb7 (hB6.set_ 5 _).lt
          simpa using this
        have hz7 := (hz6.far (p := ⟨g5, 5, none⟩) (Nat.ne_of_lt hg5) (.slice A6 n' c6)).below hb7 (hz6.far (p := ⟨g5, 5, none⟩) (Nat.ne_of_lt hg5) _).lt
        have hb7' : Below w.heap.size w W7 := (hb6'.setCell (p := ⟨g5, 5, none⟩) (by have := Hg.out; simp; omega) (.slice A6 n' c6)).trans (hb7.mono (by simp [World.setCell]; exact hb6'.size))
        have hown7 : W7.ownsRow W5.heap.size 5 1 (.slice A6 n' c6) n' (u8c data) := by
          have hs6 : (W6.setCell ⟨g5, 5, none⟩ (.slice A6 n' c6)).heap.size = W6.heap.size := by simp [World.setCell]
          refine own_below (own_far hown6 (g := g5) (fun h => ?_) 5 _) hb7
          have := hblk6 _ h
          omega
        have h14d : W7.cell? ⟨ad.block, ad.off + 14, none⟩ = some (.int .u8 (b14.toNat : Int)) :=
          ((hb7'.cell (p := ⟨ad.block, ad.off + 14, none⟩) (Nat.lt_of_lt_of_le hadB hB)).trans (hb5.cell (p := ⟨ad.block, ad.off + 14, none⟩) (Nat.lt_of_lt_of_le hadB hB)).symm).trans h14c
        have hc7 := hB7.cell
        have hcz := hz7.cell
        have hcf := hz7.frozen
        clear hc6 hf6 hb7 hB6 hz6 hb6 hb6' hown6 hlaw h14c
        by_cases hl0 : law = 0
        · subst hl0
          go_wp2_with fail
          have hwg : w.heap.size ≤ g := by have := Hg.out; omega
          have hgW5 : g ≠ W5.heap.size := by have := hB5.lt; omega
          have hB8 := hz7.store6 (.int .i64 (b0.toNat : Int)) (.int .u32 q1) (.int .u32 q5) (.int .u32 q9) (.int .i64 (b13.toNat : Int)) (.slice A6 n' c6)
          have hb8 := below_store6 hb7' hwg (.int .i64 (b0.toNat : Int)) (.int .u32 q1) (.int .u32 q5) (.int .u32 q9) (.int .i64 (b13.toNat : Int)) (.slice A6 n' c6)
          have hAg : ∀ x, (Value.slice A6 n' c6).ownBlock = some x → x ≠ g := fun x hx e => by have := hblk6 x hx; omega
          have hfar : (Value.slice A6 n' c6).ownBlock ≠ some g := fun h => hAg g h rfl
          have hown8 := own_far (own_far (own_far (own_far (own_far (own_far hown7 hfar 0 (.int .i64 (b0.toNat : Int))) hfar 1 (.int .u32 q1)) hfar 2 (.int .u32 q5)) hfar 3 (.int .u32 q9)) hfar 4 (.int .i64 (b13.toNat : Int))) hfar 5 (.slice A6 n' c6)
          clear hcz hcf hc7
          generalize (((((W7.setCell ⟨g, 0, none⟩ _).setCell ⟨g, 1, none⟩ _).setCell ⟨g, 2, none⟩ _).setCell ⟨g, 3, none⟩ _).setCell ⟨g, 4, none⟩ _).setCell ⟨g, 5, none⟩ _ = W8 at *
          have hc8 := hB8.cell
          have hdm : dm = (⟨b0.toNat, q1, q5, q9, b13.toNat, data⟩, 0) := by rw [Hdm3.out, if_neg (by simp)]
          subst hdm
          refine bodyPost_ret (v := .tuple #[unitVal ⟨b0.toNat, q1, q5, q9, b13.toNat, data⟩ (.slice A6 n' c6), .int .i64 0]) (by simp [results, Tryz.results88, go_sem, unitVal, hc8]) rfl ⟨_, rfl, ?_, hb8⟩
          simp only [hdl]
          exact own_base hown8 hsz5
        · have hl0' : (law != 0) = true := by simpa using hl0
          go_wp2_with fail
          have hwg : w.heap.size ≤ g := by have := Hg.out; omega
          have hB8 := hz7.store6 (.int .i64 0) (.int .u32 0) (.int .u32 0) (.int .u32 0) (.int .i64 0) (.slice none 0 0)
          have hb8 := below_store6 hb7' hwg (.int .i64 0) (.int .u32 0) (.int .u32 0) (.int .u32 0) (.int .i64 0) (.slice none 0 0)
          clear hcz hcf hc7
          generalize (((((W7.setCell ⟨g, 0, none⟩ _).setCell ⟨g, 1, none⟩ _).setCell ⟨g, 2, none⟩ _).setCell ⟨g, 3, none⟩ _).setCell ⟨g, 4, none⟩ _).setCell ⟨g, 5, none⟩ _ = W8 at *
          have hc8 := hB8.cell
          have hdm : dm = (.zero, law) := by rw [Hdm3.out, if_pos hl0]
          subst hdm
          refine bodyPost_ret (v := .tuple #[unitVal .zero (.slice none 0 0), .int .i64 law]) (by simp [results, Tryz.results88, go_sem, unitVal, UnitM.zero, hc8]) rfl ⟨_, rfl, World.ownsRow_nil _ _ _ _, hb8⟩
      · have hq14 : ((b14.toNat : Int) == (n' : Int)) = false := by simp; omega
        have hq14' : ((b14.toNat : Int) != (n' : Int)) = true := by simp; omega
        have hlaw := fun A c w => unitLawful_any ⟨b0.toNat, q1, q5, q9, b13.toNat, []⟩ A c w n1 n2
        have hhead := lawful_head (b0.toNat : Int) q1 q5 q9 (b13.toNat : Int) data []
        have Hdm3 : Hid (dm = (.zero, if (UnitM.mk b0.toNat q1 q5 q9 b13.toNat []).lawful ≠ 43 ∧ (UnitM.mk b0.toNat q1 q5 q9 b13.toNat []).lawful ≠ 44 then 45 else (UnitM.mk b0.toNat q1 q5 q9 b13.toNat []).lawful)) := Lib.hid (by
          rw [Hdm2.out, Hunit.out]
          simp only [hdl, ne_eq, h14, not_false_eq_true, and_true]
          generalize (UnitM.mk b0.toNat q1 q5 q9 b13.toNat data).lawful = x at *
          generalize (UnitM.mk b0.toNat q1 q5 q9 b13.toNat []).lawful = y at *
          by_cases x43 : x = 43
          · have y43 := hhead.1.1 x43
            subst x43 y43
            simp
          · by_cases x44 : x = 44
            · have y44 := hhead.2.1 x44
              subst x44 y44
              simp
            · have y43 : ¬ y = 43 := fun h => x43 (hhead.1.2 h)
              have y44 : ¬ y = 44 := fun h => x44 (hhead.2.2 h)
              simp [x43, x44, y43, y44])
        unfold unitVal at hlaw
        simp only [List.length_nil] at hlaw
        generalize (UnitM.mk b0.toNat q1 q5 q9 b13.toNat []).lawful = law at *
        clear Hdm2 Hunit hhead
        go_wp2_with fail
        refine (hlaw _ _ _).mono ?_
        rintro e W7 ⟨rfl, hb7⟩
        have hz7 := hz5.below hb7 hz5.lt
        have hb7' := hb5.trans (hb7.mono hsz5)
        have h14d : W7.cell? ⟨ad.block, ad.off + 14, none⟩ = some (.int .u8 (b14.toNat : Int)) :=
          ((hb7'.cell (p := ⟨ad.block, ad.off + 14, none⟩) (Nat.lt_of_lt_of_le hadB hB)).trans (hb5.cell (p := ⟨ad.block, ad.off + 14, none⟩) (Nat.lt_of_lt_of_le hadB hB)).symm).trans h14c
        clear hcz hcf hc5 hf5 hlaw hb7 h14c
        have hcz := hz7.cell
        have hcf := hz7.frozen
        have hwg : w.heap.size ≤ g := by have := Hg.out; omega
        have hB8 := hz7.store6 (.int .i64 0) (.int .u32 0) (.int .u32 0) (.int .u32 0) (.int .i64 0) (.slice none 0 0)
        have hb8 := below_store6 hb7' hwg (.int .i64 0) (.int .u32 0) (.int .u32 0) (.int .u32 0) (.int .i64 0) (.slice none 0 0)
        by_cases x43 : law = 43
        · subst x43
          go_wp2_with fail
          clear hcz hcf
          generalize (((((W7.setCell ⟨g, 0, none⟩ _).setCell ⟨g, 1, none⟩ _).setCell ⟨g, 2, none⟩ _).setCell ⟨g, 3, none⟩ _).setCell ⟨g, 4, none⟩ _).setCell ⟨g, 5, none⟩ _ = W8 at *
          have hc8 := hB8.cell
          have hdm : dm = (.zero, 43) := by rw [Hdm3.out]; simp
          subst hdm
          refine bodyPost_ret (v := .tuple #[unitVal .zero (.slice none 0 0), .int .i64 43]) (by simp [results, Tryz.results88, go_sem, unitVal, UnitM.zero, hc8]) rfl ⟨_, rfl, World.ownsRow_nil _ _ _ _, hb8⟩
        · have g43 : (law != 43) = true := by simpa using x43
          by_cases x44 : law = 44
          · subst x44
            go_wp2_with fail
            clear hcz hcf
            generalize (((((W7.setCell ⟨g, 0, none⟩ _).setCell ⟨g, 1, none⟩ _).setCell ⟨g, 2, none⟩ _).setCell ⟨g, 3, none⟩ _).setCell ⟨g, 4, none⟩ _).setCell ⟨g, 5, none⟩ _ = W8 at *
            have hc8 := hB8.cell
            have hdm : dm = (.zero, 44) := by rw [Hdm3.out]; simp
            subst hdm
            refine bodyPost_ret (v := .tuple #[unitVal .zero (.slice none 0 0), .int .i64 44]) (by simp [results, Tryz.results88, go_sem, unitVal, UnitM.zero, hc8]) rfl ⟨_, rfl, World.ownsRow_nil _ _ _ _, hb8⟩
          · have g44 : (law != 44) = true := by simpa using x44
            go_wp2_with fail
            clear hcz hcf
            generalize (((((W7.setCell ⟨g, 0, none⟩ _).setCell ⟨g, 1, none⟩ _).setCell ⟨g, 2, none⟩ _).setCell ⟨g, 3, none⟩ _).setCell ⟨g, 4, none⟩ _).setCell ⟨g, 5, none⟩ _ = W8 at *
            have hc8 := hB8.cell
            have hdm : dm = (.zero, 45) := by rw [Hdm3.out]; simp [x43, x44]
            subst hdm
            refine bodyPost_ret (v := .tuple #[unitVal .zero (.slice none 0 0), .int .i64 45]) (by simp [results, Tryz.results88, go_sem, unitVal, UnitM.zero, hc8]) rfl ⟨_, rfl, World.ownsRow_nil _ _ _ _, hb8⟩
end Go.Proofs.YtfoldlbnkfnenaaGreat
