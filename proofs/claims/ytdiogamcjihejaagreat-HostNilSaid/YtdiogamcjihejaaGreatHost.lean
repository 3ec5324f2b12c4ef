/- A host in memory. -/
import Derived.Test.YtdiogamcjihejaaGreatValveB
import Derived.Test.YtdiogamcjihejaaGreatDog
import Derived.Test.YtdiogamcjihejaaGreatDiagB
namespace Go.Proofs.YtdiogamcjihejaaGreat
open Go.RowKit
set_option maxHeartbeats 4000000
set_option maxRecDepth 100000

def hostCells (m : HostM) (d v g : Nat) (val : Value) : Array Value :=
  #[.int .u32 m.p.code, .int .i64 m.p.out, .int .i64 m.p.inn, .int .i64 m.p.watch, .int .u32 m.p.count, .pointer (some ⟨d, 0, none⟩), .pointer (some ⟨v, 0, none⟩), .pointer (some ⟨g, 0, none⟩),
    .int .i64 m.state, .int .u32 m.session, .int .u32 m.number, .int .u32 m.sent, .bool m.waits, .int .i64 m.missed, val, .bool m.hold]
/-- A host at block a: its dog d, its valve v, its log g, its value val; all that is its own lies in F, from B on. -/
structure HostAt (B : Nat) (w : World) (a : Nat) (m : HostM) (F : Nat → Prop) (d v g : Nat) (val : Value) (FV FL : Nat → Prop) : Prop where
  blk : Blk w a 117 (hostCells m d v g val)
  dog : DogIs w d m.p.watch m.since
  valve : ValveIs w v m.valve m.p.inn FV
  log : DiagIs w g m.log FL
  value : w.ownsRow 0 5 1 val m.value.length (u8c m.value)
  fa : F a
  fd : F d
  fV : ∀ x, FV x → F x
  fL : ∀ x, FL x → F x
  fx : ∀ x, val.ownBlock = some x → F x
  fb : ∀ x, F x → B ≤ x ∧ x < w.heap.size
  va : ¬ FV a ∧ ¬ FV d
  la : ¬ FL a ∧ ¬ FL d
  vl : ∀ x, FV x → ¬ FL x
  xv : ∀ x, val.ownBlock = some x → ¬ FV x ∧ ¬ FL x ∧ x ≠ a ∧ x ≠ d
def HostIs (B : Nat) (w : World) (a : Nat) (m : HostM) (F : Nat → Prop) : Prop := ∃ d v g val FV FL, HostAt B w a m F d v g val FV FL
section
variable {B : Nat} {w w' : World} {a d v g : Nat} {m : HostM} {F FV FL FV' FL' : Nat → Prop} {val : Value}
theorem HostAt.ne (h : HostAt B w a m F d v g val FV FL) : a ≠ d := h.blk.ne_ h.dog (by decide)
theorem grow_fb (hb : ∀ x, F x → B ≤ x ∧ x < w.heap.size) (hB : B ≤ w.heap.size) (hs : w.heap.size ≤ w'.heap.size) : ∀ x, grow F w w' x → B ≤ x ∧ x < w'.heap.size := by
  intro x hx
  rcases hx with hx | hx
  · have := hb x hx; omega
  · omega
theorem HostAt.Ble (h : HostAt B w a m F d v g val FV FL) : B ≤ w.heap.size := by have := h.fb a h.fa; omega
/-- Behind a call that leaves alone what it did not make. -/
theorem HostAt.below (h : HostAt B w a m F d v g val FV FL) (hb : Below w.heap.size w w') : HostAt B w' a m (grow F w w') d v g val FV FL where
  blk := h.blk.below hb h.blk.lt
  dog := Blk.below h.dog hb (Blk.lt h.dog)
  valve := h.valve.keep (S := fun _ => False) (Keep.of_below hb) (fun _ _ h => h) (fun _ h => h)
  log := h.log.below hb
  value := ownsRow_keep (S := fun _ => False) h.value (Keep.of_below hb) (fun _ _ h => h)
  fa := .inl h.fa
  fd := .inl h.fd
  fV := fun x hx => .inl (h.fV x hx)
  fL := fun x hx => .inl (h.fL x hx)
  fx := fun x hx => .inl (h.fx x hx)
  fb := grow_fb h.fb h.Ble hb.size
  va := h.va
  la := h.la
  vl := h.vl
  xv := h.xv
/-- Behind a store into the host's own block. -/
theorem HostAt.upd (h : HostAt B w a m F d v g val FV FL) {m' : HostM} (hk : Keep (fun x => x = a) w w') (hs : w'.heap.size = w.heap.size) (hb : Blk w' a 117 (hostCells m' d v g val)) (e1 : m'.p = m.p) (e2 : m'.since = m.since) (e3 : m'.valve = m.valve) (e4 : m'.log = m.log) (e5 : m'.value = m.value) :
    HostAt B w' a m' F d v g val FV FL where
  blk := hb
  dog := by rw [e1, e2]; exact Blk.keep h.dog hk (fun e => h.ne e.symm)
  valve := by rw [e1, e3]; exact h.valve.keep hk (fun x hx e => h.va.1 (e ▸ hx)) (fun _ h => h)
  log := by rw [e4]; exact h.log.keep hk (fun x hx e => h.la.1 (e ▸ hx)) (fun _ h => h)
  value := by rw [e5]; exact ownsRow_keep h.value hk (fun x hx e => (h.xv x hx).2.2.1 e)
  fa := h.fa
  fd := h.fd
  fV := h.fV
  fL := h.fL
  fx := h.fx
  fb := by rw [hs]; exact h.fb
  va := h.va
  la := h.la
  vl := h.vl
  xv := h.xv
/-- Behind a call on the valve. -/
theorem HostAt.onValve (h : HostAt B w a m F d v g val FV FL) {V' : ValveM} (hv : ValveIs w' v V' m.p.inn FV') (hk : Keep FV w w') (hF : ∀ x, FV' x → FV x ∨ (w.heap.size ≤ x ∧ x < w'.heap.size)) :
    HostAt B w' a { m with valve := V' } (grow F w w') d v g val FV' FL where
  blk := h.blk.keep hk h.va.1
  dog := Blk.keep h.dog hk h.va.2
  valve := hv
  log := h.log.keep hk (fun x hx e => h.vl x e hx) (fun _ h => h)
  value := ownsRow_keep h.value hk (fun x hx => (h.xv x hx).1)
  fa := .inl h.fa
  fd := .inl h.fd
  fV := fun x hx => (hF x hx).elim (fun hx => .inl (h.fV x hx)) .inr
  fL := fun x hx => .inl (h.fL x hx)
  fx := fun x hx => .inl (h.fx x hx)
  fb := grow_fb h.fb h.Ble hk.size
  va := ⟨fun hx => (hF a hx).elim h.va.1 (fun hx => by have := (h.fb a h.fa).2; omega), fun hx => (hF d hx).elim h.va.2 (fun hx => by have := (h.fb d h.fd).2; omega)⟩
  la := h.la
  vl := fun x hx hl => (hF x hx).elim (fun hx => h.vl x hx hl) (fun hx => by have := (h.fb x (h.fL x hl)).2; omega)
  xv := fun x hx => ⟨fun hv => (hF x hv).elim (h.xv x hx).1 (fun hv => by have := (h.fb x (h.fx x hx)).2; omega), (h.xv x hx).2⟩
/-- Behind a call on the log. -/
theorem HostAt.onLog (h : HostAt B w a m F d v g val FV FL) {L' : List Rec} (hl : DiagIs w' g L' FL') (hk : Keep FL w w') (hF : ∀ x, FL' x → FL x ∨ (w.heap.size ≤ x ∧ x < w'.heap.size)) :
    HostAt B w' a { m with log := L' } (grow F w w') d v g val FV FL' where
  blk := h.blk.keep hk h.la.1
  dog := Blk.keep h.dog hk h.la.2
  valve := h.valve.keep hk (fun x hx e => h.vl x hx e) (fun _ h => h)
  log := hl
  value := ownsRow_keep h.value hk (fun x hx => (h.xv x hx).2.1)
  fa := .inl h.fa
  fd := .inl h.fd
  fV := fun x hx => .inl (h.fV x hx)
  fL := fun x hx => (hF x hx).elim (fun hx => .inl (h.fL x hx)) .inr
  fx := fun x hx => .inl (h.fx x hx)
  fb := grow_fb h.fb h.Ble hk.size
  va := h.va
  la := ⟨fun hx => (hF a hx).elim h.la.1 (fun hx => by have := (h.fb a h.fa).2; omega), fun hx => (hF d hx).elim h.la.2 (fun hx => by have := (h.fb d h.fd).2; omega)⟩
  vl := fun x hx hl => (hF x hl).elim (fun hl => h.vl x hx hl) (fun hl => by have := (h.fb x (h.fV x hx)).2; omega)
  xv := fun x hx => ⟨(h.xv x hx).1, fun hl => (hF x hl).elim (h.xv x hx).2.1 (fun hl => by have := (h.fb x (h.fx x hx)).2; omega), (h.xv x hx).2.2⟩
/-- Behind a call on the dog. -/
theorem HostAt.onDog (h : HostAt B w a m F d v g val FV FL) {s' : Int} (hd : DogIs w' d m.p.watch s') (hk : Keep (fun x => x = d) w w') (hs : w'.heap.size = w.heap.size) : HostAt B w' a { m with since := s' } F d v g val FV FL where
  blk := h.blk.keep hk (fun e => h.ne e)
  dog := hd
  valve := h.valve.keep hk (fun x hx e => h.va.2 (e ▸ hx)) (fun _ h => h)
  log := h.log.keep hk (fun x hx e => h.la.2 (e ▸ hx)) (fun _ h => h)
  value := ownsRow_keep h.value hk (fun x hx e => (h.xv x hx).2.2.2 e)
  fa := h.fa
  fd := h.fd
  fV := h.fV
  fL := h.fL
  fx := h.fx
  fb := by rw [hs]; exact h.fb
  va := h.va
  la := h.la
  vl := h.vl
  xv := h.xv
end
end Go.Proofs.YtdiogamcjihejaaGreat
