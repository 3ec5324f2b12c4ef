/- The base of the laws, part 7: contracts and plain lemmas, no statement. -/
import Derived.Test.YtbkkfkbgcklkgaaGreatBase6
set_option linter.unusedVariables false
namespace Go.Proofs.YtbkkfkbgcklkgaaGreat

/-- Bytes that outlive the power. -/
structure MemM where
  b : List UInt8
  off : Bool := false
  armed : Bool := false
  left : Int := 0
  writes : Int := 0
namespace MemM
def write (m : MemM) (at_ : Nat) (c : UInt8) : MemM × Int :=
  if m.off then (m, 70) else if m.b.length ≤ at_ then (m, 2) else if m.armed && m.left == 0 then ({ m with off := true }, 70)
  else ({ m with left := if m.armed then m.left - 1 else m.left, b := m.b.set at_ c, writes := m.writes + 1 }, 0)
def arm (m : MemM) (n : Int) : MemM × Int := if n < 0 then (m, 2) else ({ m with armed := true, left := n }, 0)
def on (m : MemM) : MemM := { m with off := false, armed := false }
/-- Does slot k hold a word, and which? -/
def holds (m : MemM) (k : Nat) : Bool := m.b.getD (5 * k) 0 == 0xa5
def word (m : MemM) (k : Nat) : Int := numAt m.b (5 * k + 1)
/-- Writes, one behind the other, until one is refused. -/
def writeAll (m : MemM) : List (Nat × UInt8) → MemM × Int
  | [] => (m, 0)
  | x :: l => if (m.write x.1 x.2).2 ≠ 0 then m.write x.1 x.2 else (m.write x.1 x.2).1.writeAll l
def slotBytes (k : Nat) (w : Int) : List (Nat × UInt8) :=
  [(5 * k, 0), (5 * k + 1, byteOf (w / 16777216)), (5 * k + 2, byteOf (w / 65536)), (5 * k + 3, byteOf (w / 256)), (5 * k + 4, byteOf w), (5 * k, 0xa5)]
def writeSlot (m : MemM) (k : Nat) (w : Int) : MemM × Int := m.writeAll (slotBytes k w)
def top (m : MemM) : Int :=
  let v := if m.holds 0 && decide (0 < m.word 0) then m.word 0 else 0
  if m.holds 1 && decide (v < m.word 1) then m.word 1 else v
/-- Slot k put right by the other one. -/
def mend (m : MemM) (k : Nat) : MemM × Int :=
  if !m.holds k && m.holds (1 - k) then m.writeSlot k (m.word (1 - k)) else if !m.holds k && m.b.getD (5 * k) 0 != 0 then m.write (5 * k) 0 else (m, 0)
end MemM
/-- A cell over a memory. -/
structure CellM where
  max : Int
  value : Int
  dead : Bool := false
/-- A cell is opened: the memory put right. -/
def openM (m : MemM) (max : Int) : MemM × Option CellM × Int :=
  if max = 0 ∨ m.b.length < 10 then (m, none, 2) else if m.off then (m, none, 70)
  else
    let v := m.top
    let a := m.mend 0
    if a.2 ≠ 0 then (a.1, none, a.2) else
    let c := a.1.mend 1
    if c.2 ≠ 0 then (c.1, none, c.2) else (c.1, some ⟨max, v, false⟩, 0)
def CellM.next (c : CellM) (m : MemM) : CellM × MemM × Int × Int :=
  if c.dead || m.off then (c, m, 0, 70) else if c.max ≤ c.value then (c, m, 0, 80)
  else
    let k := if m.holds 0 && (!m.holds 1 || decide (m.word 1 < m.word 0)) then 1 else 0
    let r := m.writeSlot k (c.value + 1)
    if r.2 ≠ 0 then ({ c with dead := true }, r.1, 0, 70) else ({ c with value := c.value + 1 }, r.1, c.value + 1, 0)

/-- A device. -/
structure DevM where
  p : ParM
  m : MemM
  max : Int
  cell : CellM
  log : List Rec := []
  since : Int := 0
  valve : ValveM := {}
  state : Int := 1
  session : Int := 0
  number : Int := 0
  sent : Int := 0
  odd : Int := 0
  value : List UInt8
  hold : Bool := false
namespace DevM
def life (d : DevM) (state : Int) : DevM := { p := d.p, m := d.m, max := d.max, cell := d.cell, log := d.log, state, value := List.replicate d.p.inn.toNat 0 }
def new (p : ParM) (m : MemM) (max : Int) : MemM × Option DevM × Int :=
  if !p.lawful then (m, none, 90) else
  match openM m max with
  | (m', some c, _) => (m', some { p, m := m', max, cell := c, value := List.replicate p.inn.toNat 0 }, 0)
  | (m', none, e) => (m', none, e)
def reset (d : DevM) (n : Int) : DevM × Int :=
  if n < 0 then (d, 2) else
  let m := if 0 < n then (d.m.on.arm (n - 1)).1 else d.m.on
  match openM m d.max with
  | (m', some c, _) => ({ (d.life 1) with m := m', cell := c }, 0)
  | (m', none, e) => ({ (d.life 6) with m := m' }, e)
def trip (d : DevM) (code : Int) : DevM :=
  let r := d.valve.trip code
  { d with valve := r.1, log := if r.2 then noteM d.log code d.session d.number else d.log }
def alive (d : DevM) : DevM := { d with odd := 0, since := 0, valve := d.valve.come }
def run (d : DevM) (on : Bool) : DevM := { d with valve := d.valve.run on }
def leave (d : DevM) (state : Int) : DevM := { d with valve := d.valve.run false, state, session := 0, number := 0, sent := 0, odd := 0 }
def frame (d : DevM) (kind number flags : Int) (data : List UInt8) : List UInt8 := (UnitM.mk kind d.p.code d.session number flags data).encode
def none (d : DevM) : List UInt8 := d.frame 22 0 0 []
def offer (d : DevM) : List UInt8 := d.frame 17 0 0 d.p.sign
def busy (d : DevM) : Bool := decide (d.state = 2 ∨ d.state = 3 ∨ d.state = 4)
/-- One more odd unit; was the session given up by it? -/
def strange (d : DevM) : DevM × Bool :=
  if !d.busy then (d, false) else
  let g := { d with odd := d.odd + 1 }
  if g.odd < 4 then (g, false) else ((if g.state = 4 then g.trip 131 else g).leave 1, true)
def odds (d : DevM) (e : Int) : DevM × List UInt8 × Int := (d.strange.1, d.strange.1.none, e)
def begin_ (d : DevM) : DevM × List UInt8 × Int :=
  match d.cell.next d.m with
  | (c, m, s, e) =>
    let g := { d with cell := c, m := m }
    if e = 80 then let k := (g.trip 80).leave 5; (k, k.none, 80)
    else if e ≠ 0 then (g.life 6, [], 70)
    else let k := { g.leave 2 with session := s }; (k, k.offer, 0)
/-- The host wants a session. -/
def wish (d : DevM) : DevM × List UInt8 × Int :=
  if d.busy then
    let r := d.strange
    if r.2 then r.1.begin_ else if r.1.state = 2 then (r.1, r.1.offer, 130) else (r.1, r.1.none, 130)
  else d.begin_
def take (d : DevM) (u : UnitM) : DevM × List UInt8 × Int :=
  if u.kind = 1 then (if u.data = d.p.sign then d.wish else d.odds 91)
  else if u.kind = 2 ∧ u.session = d.session ∧ (d.state = 2 ∨ d.state = 3) then
    if u.data ≠ d.p.sign then d.odds 91 else
    let g := if d.state = 2 then ({ d with state := 3 } : DevM).alive else d
    (g, g.frame 18 0 0 [], 0)
  else if u.kind = 3 ∧ u.session = d.session ∧ (d.state = 3 ∨ d.state = 4 ∧ d.number = 0) then
    let g := if d.state = 3 then (({ d with state := 4 } : DevM).run true).alive else d
    (g, g.frame 19 0 0 [], 0)
  else if u.kind = 4 ∧ d.state = 4 ∧ u.session = d.session ∧ d.number < u.number ∧ (u.data.length : Int) = d.p.out ∧ u.number < d.p.count then
    let g := ({ d with number := u.number } : DevM).alive
    let k := { g with valve := (g.valve.hold (decide (8 ≤ u.flags))).take u.data, sent := g.sent + 1 }
    (k, k.frame 20 k.sent (flagsM k.valve k.hold) k.value, 0)
  else if u.kind = 5 ∧ d.state = 4 ∧ u.session = d.session ∧ d.number < u.number ∧ u.number = d.p.count then
    let g := { (({ d with number := u.number } : DevM).alive).trip 80 with sent := d.p.count }
    ({ g.run false with state := 5 }, g.frame 21 g.sent 0 [], 0)
  else d.odds 130
def read (d : DevM) (b : List UInt8) : DevM × List UInt8 × Int :=
  let u := decodeM b
  if u.2 ≠ 0 then (d, [], u.2) else if !isHost u.1.kind then (d, [], 43) else if u.1.code ≠ d.p.code then (d, [], 44) else d.take u.1
def receive (d : DevM) (b : List UInt8) : DevM × List UInt8 × Int :=
  if d.state = 6 then (d, [], 70) else
  let r := d.read b
  if r.2.2 = 0 ∨ r.2.2 = 70 then r else ({ r.1 with log := noteM r.1.log r.2.2 r.1.session r.1.number }, r.2.1, r.2.2)
def write (d : DevM) (b : List UInt8) (hold : Bool) : DevM × Int :=
  if d.state = 6 then (d, 70) else if (b.length : Int) ≠ d.p.inn then (d, 45) else ({ d with value := b, hold := hold }, 0)
def tick (d : DevM) (n : Int) : DevM × Int :=
  if d.state = 6 then (d, 70) else if n < 0 then (d, 2) else
  let r := ticksM d.p.watch d.since n
  let g := { d with since := r.1 }
  (if r.2 then g.trip 100 else g, 0)
def ack (d : DevM) : DevM × Int := if d.state = 6 then (d, 70) else if d.valve.request then ({ d with valve := d.valve.ack }, 0) else (d, 110)
def see (d : DevM) : EndM := ⟨d.state, d.session, d.number, d.sent, d.since, d.valve.latched, d.valve.request, d.valve.on, d.valve.output d.p.out⟩
end DevM
end Go.Proofs.YtbkkfkbgcklkgaaGreat
/- mem's memory by its contracts. -/
namespace Go.Proofs.YtbkkfkbgcklkgaaGreat
open Go.RowKit
set_option maxHeartbeats 4000000
set_option maxRecDepth 100000

theorem boolLoad_any (a : Addr) (b : Bool) (w : World) (hc : w.cell? a = some (.int .u32 (if b then 1 else 0))) :
    Calls Tryz.prog 156 #[.pointer (some a)] w fun e w' => e = .returned (.bool b) ∧ w' = w := by
  have hl := run_call_load (P := Tryz.prog) Tryz.func178 (by kernel_rfl) (by kernel_rfl) (by kernel_rfl) .u32 (by kernel_rfl) hc
  cases b with
  | false =>
    simp only [Bool.false_eq_true, if_false] at hl
    go_enter Tryz.func156, Tryz.ntmps156
    go_wp2
    go_ret
    exact ⟨rfl, rfl⟩
  | true =>
    simp only [if_true] at hl
    go_enter Tryz.func156, Tryz.ntmps156
    go_wp2
    go_ret
    exact ⟨rfl, rfl⟩
theorem boolStore_any (a : Addr) (b : Bool) (x : Value) (w : World) (hc : w.cell? a = some x) (hz : w.frozen? a = false) :
    Calls Tryz.prog 113 #[.pointer (some a), .bool b] w fun e w' => e = .returned (.tuple #[]) ∧ w' = w.drew.setCell a (.int .u32 (if b then 1 else 0)) := by
  have hc' : w.drew.cell? a = some x := by go_simp
  have hz' : w.drew.frozen? a = false := by go_simp
  cases b with
  | false =>
    have hst := run_call_store (P := Tryz.prog) Tryz.func151 (by kernel_rfl) (by kernel_rfl) (by kernel_rfl) (by kernel_rfl) (k := .u32) (y := 0) hc' hz'
    go_enter Tryz.func113, Tryz.ntmps113
    go_wp2
    go_region_calls
    all_goals (go_end0; exact ⟨rfl, rfl⟩)
  | true =>
    have hst := run_call_store (P := Tryz.prog) Tryz.func151 (by kernel_rfl) (by kernel_rfl) (by kernel_rfl) (by kernel_rfl) (k := .u32) (y := 1) hc' hz'
    go_enter Tryz.func113, Tryz.ntmps113
    go_wp2
    go_region_calls
    all_goals (go_end0; exact ⟨rfl, rfl⟩)

def memCells (row : Value) (m : MemM) (wr : Int) : Array Value := #[row, .int .u32 (if m.off then 1 else 0), .bool m.armed, .int .i64 m.left, .int .i64 wr]
/-- A memory at block mb: its bytes' row. -/
structure MemAt (w : World) (mb : Nat) (m : MemM) (F : Nat → Prop) (row : Value) (wr : Int) : Prop where
  blk : Blk w mb 95 (memCells row m wr)
  bytes : w.ownsRow 0 5 1 row m.b.length (u8c m.b)
  fb : F mb
  fr : ∀ x, row.ownBlock = some x → F x
  len : m.b.length ≤ 4096
  left : 0 ≤ m.left ∧ m.left < 9223372036854775808
def MemIs (w : World) (mb : Nat) (m : MemM) (F : Nat → Prop) : Prop := ∃ row wr, MemAt w mb m F row wr
section
variable {w w' : World} {mb : Nat} {m m' : MemM} {F F' S : Nat → Prop} {row : Value} {wr wr' : Int}
theorem MemAt.keep (h : MemAt w mb m F row wr) (hk : Keep S w w') (hS : ∀ x, F x → ¬ S x) (hF : ∀ x, F x → F' x) : MemAt w' mb m F' row wr where
  blk := h.blk.keep hk (hS _ h.fb)
  bytes := ownsRow_keep h.bytes hk (fun x hx => hS _ (h.fr x hx))
  fb := hF _ h.fb
  fr := fun x hx => hF _ (h.fr x hx)
  len := h.len
  left := h.left
theorem MemIs.keep (h : MemIs w mb m F) (hk : Keep S w w') (hS : ∀ x, F x → ¬ S x) (hF : ∀ x, F x → F' x) : MemIs w' mb m F' := by
  obtain ⟨row, wr, h⟩ := h
  exact ⟨row, wr, h.keep hk hS hF⟩
theorem MemIs.below (h : MemIs w mb m F) (hb : Below w.heap.size w w') : MemIs w' mb m F := h.keep (S := fun _ => False) (Keep.of_below hb) (fun _ _ h => h) (fun _ h => h)
theorem MemIs.drewN (h : MemIs w mb m F) (k : Nat) : MemIs (w.drewN k) mb m F := h.keep (S := fun _ => False) ((Keep.refl _ w).drewN k) (fun _ _ h => h) (fun _ h => h)
/-- Behind a store into its block. -/
theorem MemAt.upd (h : MemAt w mb m F row wr) (hk : Keep (fun x => x = mb) w w') (hb : Blk w' mb 95 (memCells row m' wr')) (e : m'.b = m.b) (hl : 0 ≤ m'.left ∧ m'.left < 9223372036854775808) : MemAt w' mb m' F row wr' where
  blk := hb
  bytes := by rw [e]; exact ownsRow_keep h.bytes hk (fun x hx e => own_ne h.bytes h.blk (by decide) (e ▸ hx))
  fb := h.fb
  fr := h.fr
  len := by rw [e]; exact h.len
  left := hl
theorem MemAt.off (h : MemAt w mb m F row wr) : w.cell? ⟨mb, 1, none⟩ = some (.int .u32 (if m.off then 1 else 0)) := (h.blk.cell 1).trans rfl
end
/-- What a call on a memory leaves. -/
structure MemTo (w : World) (mb : Nat) (m : MemM) (F : Nat → Prop) (w' : World) : Prop where
  is_ : MemIs w' mb m F
  keep : Keep F w w'
  size : w'.heap.size = w.heap.size
theorem memSize_any (mb : Nat) (m : MemM) (F : Nat → Prop) (w : World) (h : MemIs w mb m F) :
    Calls Tryz.prog 82 #[.pointer (some ⟨mb, 0, none⟩)] w fun e w' => e = .returned (.int .i64 m.b.length) ∧ w' = w := by
  obtain ⟨row, wr, h⟩ := h
  obtain ⟨A, c, rfl⟩ := own_slice h.bytes
  have hc := h.blk.cell
  unfold memCells at hc
  go_enter Tryz.func82, Tryz.ntmps82
  go_wp2_with fail
  go_ret
  exact ⟨rfl, rfl⟩
theorem memOff_any (mb : Nat) (m : MemM) (F : Nat → Prop) (w : World) (h : MemIs w mb m F) :
    Calls Tryz.prog 195 #[.pointer (some ⟨mb, 0, none⟩)] w fun e w' => e = .returned (.bool m.off) ∧ w' = w := by
  obtain ⟨row, wr, h⟩ := h
  have hl := boolLoad_any ⟨mb, 1, none⟩ m.off w h.off
  go_enter Tryz.func195, Tryz.ntmps195
  go_wp2_with fail
  refine hl.mono ?_
  rintro e w1 ⟨rfl, rfl⟩
  go_wp2_with fail
  go_ret
  exact ⟨rfl, rfl⟩
theorem memArm_any (mb : Nat) (m : MemM) (F : Nat → Prop) (n : Int) (w : World) (h : MemIs w mb m F) (hn : n < 9223372036854775808) :
    Calls Tryz.prog 30 #[.pointer (some ⟨mb, 0, none⟩), .int .i64 n] w fun e w' => e = .returned (.int .i64 (m.arm n).2) ∧ MemTo w mb (m.arm n).1 F w' := by
  obtain ⟨row, wr, h⟩ := h
  have hc := h.blk.cell
  have hf := h.blk.frozen
  unfold memCells at hc
  by_cases h0 : n < 0
  · have e1 : m.arm n = (m, 2) := by unfold MemM.arm; rw [if_pos h0]
    rw [e1]
    go_enter Tryz.func30, Tryz.ntmps30
    go_wp2_with fail
    go_ret
    exact ⟨rfl, ⟨row, wr, h⟩, Keep.refl _ _, rfl⟩
  · have e1 : m.arm n = ({ m with armed := true, left := n }, 0) := by unfold MemM.arm; rw [if_neg h0]
    rw [e1]
    have h1 : MemAt ((w.setCell ⟨mb, 2, none⟩ (.bool true)).setCell ⟨mb, 3, none⟩ (.int .i64 n)) mb { m with armed := true, left := n } F row wr :=
      h.upd (((Keep.refl (fun x => x = mb) w).setCell (p := ⟨mb, 2, none⟩) (fun _ => rfl) _).setCell (p := ⟨mb, 3, none⟩) (fun _ => rfl) _) (by simpa [memCells] using (h.blk.set_ 2 (.bool true)).set_ 3 (.int .i64 n)) rfl ⟨by simp only; omega, by simp only; omega⟩
    have hk1 : Keep F w ((w.setCell ⟨mb, 2, none⟩ (.bool true)).setCell ⟨mb, 3, none⟩ (.int .i64 n)) := ((Keep.refl F w).setCell (p := ⟨mb, 2, none⟩) (fun _ => h.fb) _).setCell (p := ⟨mb, 3, none⟩) (fun _ => h.fb) _
    go_enter Tryz.func30, Tryz.ntmps30
    go_wp2_with fail
    go_ret
    exact ⟨rfl, ⟨row, wr, h1⟩, hk1, by simp [World.setCell]⟩
theorem memOn_any (mb : Nat) (m : MemM) (F : Nat → Prop) (w : World) (h : MemIs w mb m F) :
    Calls Tryz.prog 64 #[.pointer (some ⟨mb, 0, none⟩)] w fun e w' => e = .returned (.tuple #[]) ∧ MemTo w mb m.on F w' := by
  obtain ⟨row, wr, h⟩ := h
  have hc := h.blk.cell
  have hf := h.blk.frozen
  unfold memCells at hc
  have h1 : MemAt (w.setCell ⟨mb, 2, none⟩ (.bool false)) mb { m with armed := false } F row wr :=
    h.upd ((Keep.refl (fun x => x = mb) w).setCell (p := ⟨mb, 2, none⟩) (fun _ => rfl) _) (by simpa [memCells] using h.blk.set_ 2 (.bool false)) rfl h.left
  have h2 : MemAt ((w.setCell ⟨mb, 2, none⟩ (.bool false)).drew.setCell ⟨mb, 1, none⟩ (.int .u32 0)) mb m.on F row wr :=
    h1.upd ((Keep.refl (fun x => x = mb) _).drew.setCell (p := ⟨mb, 1, none⟩) (fun _ => rfl) _) (by simpa [memCells, MemM.on] using h1.blk.drew.set_ 1 (.int .u32 0)) rfl h.left
  have hk2 : Keep F w ((w.setCell ⟨mb, 2, none⟩ (.bool false)).drew.setCell ⟨mb, 1, none⟩ (.int .u32 0)) := ((Keep.refl F w).setCell (p := ⟨mb, 2, none⟩) (fun _ => h.fb) _).drew.setCell (p := ⟨mb, 1, none⟩) (fun _ => h.fb) _
  have hst := boolStore_any ⟨mb, 1, none⟩ false _ _ h1.off (h1.blk.frozen 1)
  simp only [Bool.false_eq_true, if_false] at hst
  go_enter Tryz.func64, Tryz.ntmps64
  go_wp2_with fail
  refine hst.mono ?_
  rintro e w1 ⟨rfl, rfl⟩
  go_wp2_with fail
  go_end0
  exact ⟨rfl, ⟨row, wr, h2⟩, hk2, by simp [World.setCell, World.drew]⟩
theorem memBytes_any (mb : Nat) (m : MemM) (F : Nat → Prop) (w : World) (h : MemIs w mb m F) :
    Calls Tryz.prog 81 #[.pointer (some ⟨mb, 0, none⟩)] w fun e w' => ∃ x, e = .returned x ∧ w'.ownsRow w.heap.size 5 1 x m.b.length (u8c m.b) ∧ Below w.heap.size w w' := by
  obtain ⟨row, wr, h⟩ := h
  obtain ⟨A, c, rfl⟩ := own_slice h.bytes
  have hlen := h.len
  have hcl := cloneByte_any A m.b.length c m.b w.heap.size w (fun e => reads_nn (Reads.of_own h.bytes) e) (Reads.of_own h.bytes) (Nat.le_refl _) (by omega)
  have hc := h.blk.cell
  unfold memCells at hc
  go_enter Tryz.func81, Tryz.ntmps81
  go_wp2_with fail
  refine hcl.mono ?_
  rintro e w1 ⟨x, rfl, hown, _, _, hb⟩
  obtain ⟨Ax, cx, rfl⟩ := own_slice hown
  go_wp2_with fail
  go_ret
  exact ⟨_, rfl, hown, hb⟩
theorem memRead_any (mb : Nat) (m : MemM) (F : Nat → Prop) (i : Nat) (w : World) (h : MemIs w mb m F) (hi : i < m.b.length) :
    Calls Tryz.prog 126 #[.pointer (some ⟨mb, 0, none⟩), .int .i64 i] w fun e w' => e = .returned (.tuple #[.int .u8 (if m.off then 0 else ((m.b.getD i 0).toNat : Int)), .int .i64 (if m.off then 70 else 0)]) ∧ w' = w := by
  obtain ⟨row, wr, h⟩ := h
  obtain ⟨A, c, rfl⟩ := own_slice h.bytes
  have hlen := h.len
  have hc := h.blk.cell
  unfold memCells at hc
  have hl := boolLoad_any ⟨mb, 1, none⟩ m.off w h.off
  obtain ⟨g, rfl, hcell⟩ := own_cell1 h.bytes (by omega)
  have hv := hcell i hi
  have hgd : m.b.getD i 0 = m.b[i] := by simp [List.getD_eq_getElem?_getD, hi]
  rw [hgd]
  generalize m.b[i] = x at hv
  cases ho : m.off with
  | true =>
    rw [ho] at hl
    simp only [if_true]
    go_enter Tryz.func126, Tryz.ntmps126
    go_wp2_with fail
    refine hl.mono ?_
    rintro e w1 ⟨rfl, rfl⟩
    go_wp2_with fail
    refine bodyPost_ret (v := .tuple #[.int .u8 0, .int .i64 70]) (by simp [results, Tryz.results126, go_sem]) rfl ⟨rfl, rfl⟩
  | false =>
    rw [ho] at hl
    simp only [Bool.false_eq_true, if_false]
    clear hcell hgd
    go_enter Tryz.func126, Tryz.ntmps126
    go_wp2_with fail
    refine hl.mono ?_
    rintro e w1 ⟨rfl, rfl⟩
    go_wp2_with fail
    refine bodyPost_ret (v := .tuple #[.int .u8 (x.toNat : Int), .int .i64 0]) (by simp [results, Tryz.results126, go_sem]) rfl ⟨rfl, rfl⟩
theorem memSet {w : World} {mb g c : Nat} {m m' : MemM} {F : Nat → Prop} {wr wr' : Int} (h : MemAt w mb m F (.slice (some ⟨g, 0, none⟩) m.b.length c) wr) (i : Nat) (x : UInt8) {W : World} (hW : MemAt W mb m' F (.slice (some ⟨g, 0, none⟩) m.b.length c) wr') (hb : m'.b = m.b) : MemAt (W.setCell ⟨g, i, none⟩ (.int .u8 (x.toNat : Int))) mb { m' with b := m'.b.set i x } F (.slice (some ⟨g, 0, none⟩) m.b.length c) wr' := by
  have hne : mb ≠ g := fun e => own_ne hW.bytes hW.blk (by decide) (by rw [e]; simp [Value.ownBlock])
  have hown := hW.bytes
  rw [hb] at hown
  have h2 := own_set1 hown i (.int .u8 (x.toNat : Int))
  exact { blk := hW.blk.far (p := ⟨g, i, none⟩) hne _, bytes := by simpa [u8c, List.map_set, hb] using h2, fb := hW.fb, fr := hW.fr, len := by simpa using hW.len, left := hW.left }
theorem memWrite_any (mb : Nat) (m : MemM) (F : Nat → Prop) (i : Nat) (x : UInt8) (w : World) (h : MemIs w mb m F) (hi : i < m.b.length) :
    Calls Tryz.prog 128 #[.pointer (some ⟨mb, 0, none⟩), .int .i64 i, .int .u8 (x.toNat : Int)] w fun e w' => e = .returned (.int .i64 (m.write i x).2) ∧ MemTo w mb (m.write i x).1 F w' := by
  obtain ⟨row, wr, h⟩ := h
  obtain ⟨A, c, rfl⟩ := own_slice h.bytes
  have hlen := h.len
  have hc := h.blk.cell
  have hf := h.blk.frozen
  unfold memCells at hc
  have hl := boolLoad_any ⟨mb, 1, none⟩ m.off w h.off
  obtain ⟨g, rfl, hcell⟩ := own_cell1 h.bytes (by omega)
  have hgv := hcell i hi
  have hgf := (own_at (k := i) h.bytes).1
  have hne : mb ≠ g := fun e => own_ne h.bytes h.blk (by decide) (by rw [e]; simp [Value.ownBlock])
  have hFg : F g := h.fr g (by simp [Value.ownBlock])
  have hil : ¬ m.b.length ≤ i := by omega
  clear hcell
  cases ho : m.off with
  | true =>
    rw [ho] at hl
    have e1 : m.write i x = (m, 70) := by unfold MemM.write; rw [if_pos ho]
    rw [e1]
    go_enter Tryz.func128, Tryz.ntmps128
    go_wp2_with fail
    refine hl.mono ?_
    rintro e w1 ⟨rfl, rfl⟩
    go_wp2_with fail
    go_ret
    exact ⟨rfl, ⟨_, wr, h⟩, Keep.refl _ _, rfl⟩
  | false =>
    rw [ho] at hl
    cases ha : m.armed with
    | true =>
      by_cases h0 : m.left = 0
      · have e1 : m.write i x = ({ m with off := true }, 70) := by unfold MemM.write; rw [if_neg (by simp [ho]), if_neg hil, if_pos (by simp [ha, h0])]
        rw [e1]
        have h1 : MemAt (w.drew.setCell ⟨mb, 1, none⟩ (.int .u32 1)) mb { m with off := true } F (.slice (some ⟨g, 0, none⟩) m.b.length c) wr :=
          h.upd ((Keep.refl (fun x => x = mb) w).drew.setCell (p := ⟨mb, 1, none⟩) (fun _ => rfl) _) (by simpa [memCells] using h.blk.drew.set_ 1 (.int .u32 1)) rfl h.left
        have hk1 : Keep F w (w.drew.setCell ⟨mb, 1, none⟩ (.int .u32 1)) := (Keep.refl F w).drew.setCell (p := ⟨mb, 1, none⟩) (fun _ => h.fb) _
        have hst := boolStore_any ⟨mb, 1, none⟩ true _ _ h.off (h.blk.frozen 1)
        simp only [if_true] at hst
        rw [ha, h0] at hc
        go_enter Tryz.func128, Tryz.ntmps128
        go_wp2_with fail
        refine hl.mono ?_
        rintro e w1 ⟨rfl, rfl⟩
        go_wp2_with fail
        refine hst.mono ?_
        rintro e w2 ⟨rfl, rfl⟩
        go_wp2_with fail
        go_ret
        exact ⟨rfl, ⟨_, wr, h1⟩, hk1, by simp [World.setCell, World.drew]⟩
      · have e1 : m.write i x = ({ m with left := m.left - 1, b := m.b.set i x, writes := m.writes + 1 }, 0) := by unfold MemM.write; rw [if_neg (by simp [ho]), if_neg hil, if_neg (by simp [h0])]; simp [ha]
        rw [e1]
        have hlf := h.left
        have hlw : IntKind.i64.wrap (m.left - 1) = m.left - 1 := IntWalk.i64_in _ (by omega)
        have g0 : (m.left == 0) = false := by simpa using h0
        have h1 : MemAt (w.setCell ⟨mb, 3, none⟩ (.int .i64 (m.left - 1))) mb { m with left := m.left - 1 } F (.slice (some ⟨g, 0, none⟩) m.b.length c) wr :=
          h.upd ((Keep.refl (fun x => x = mb) w).setCell (p := ⟨mb, 3, none⟩) (fun _ => rfl) _) (by simpa [memCells] using h.blk.set_ 3 (.int .i64 (m.left - 1))) rfl (by simp only; omega)
        have h2 := memSet h i x h1 rfl
        have h3 : MemAt (((w.setCell ⟨mb, 3, none⟩ (.int .i64 (m.left - 1))).setCell ⟨g, i, none⟩ (.int .u8 (x.toNat : Int))).setCell ⟨mb, 4, none⟩ (.int .i64 (wrap64 (wr + 1)))) mb { m with left := m.left - 1, b := m.b.set i x, writes := m.writes + 1 } F (.slice (some ⟨g, 0, none⟩) m.b.length c) (wrap64 (wr + 1)) := by
          have hz : (m.b.set i x).length = m.b.length := List.length_set
          have := MemAt.upd (m' := { m with left := m.left - 1, b := m.b.set i x, writes := m.writes + 1 }) (wr' := wrap64 (wr + 1)) h2 ((Keep.refl (fun x => x = mb) _).setCell (p := ⟨mb, 4, none⟩) (fun _ => rfl) (.int .i64 (wrap64 (wr + 1)))) (by simpa [memCells] using h2.blk.set_ 4 (.int .i64 (wrap64 (wr + 1)))) rfl (by simp only; omega)
          exact this
        have hk3 : Keep F w (((w.setCell ⟨mb, 3, none⟩ (.int .i64 (m.left - 1))).setCell ⟨g, i, none⟩ (.int .u8 (x.toNat : Int))).setCell ⟨mb, 4, none⟩ (.int .i64 (wrap64 (wr + 1)))) :=
          (((Keep.refl F w).setCell (p := ⟨mb, 3, none⟩) (fun _ => h.fb) _).setCell (p := ⟨g, i, none⟩) (fun _ => hFg) _).setCell (p := ⟨mb, 4, none⟩) (fun _ => h.fb) _
        rw [ha] at hc
        go_enter Tryz.func128, Tryz.ntmps128
        go_wp2_with fail
        refine hl.mono ?_
        rintro e w1 ⟨rfl, rfl⟩
        go_wp2_with fail
        go_ret
        exact ⟨rfl, ⟨_, _, h3⟩, hk3, by simp [World.setCell]⟩
    | false =>
      have e1 : m.write i x = ({ m with left := m.left, b := m.b.set i x, writes := m.writes + 1 }, 0) := by unfold MemM.write; rw [if_neg (by simp [ho]), if_neg hil, if_neg (by simp [ha])]; simp [ha]
      rw [e1]
      have h2 := memSet h i x h rfl
      have h3 : MemAt ((w.setCell ⟨g, i, none⟩ (.int .u8 (x.toNat : Int))).setCell ⟨mb, 4, none⟩ (.int .i64 (wrap64 (wr + 1)))) mb { m with left := m.left, b := m.b.set i x, writes := m.writes + 1 } F (.slice (some ⟨g, 0, none⟩) m.b.length c) (wrap64 (wr + 1)) := by
        have := MemAt.upd (m' := { m with left := m.left, b := m.b.set i x, writes := m.writes + 1 }) (wr' := wrap64 (wr + 1)) h2 ((Keep.refl (fun x => x = mb) _).setCell (p := ⟨mb, 4, none⟩) (fun _ => rfl) (.int .i64 (wrap64 (wr + 1)))) (by simpa [memCells] using h2.blk.set_ 4 (.int .i64 (wrap64 (wr + 1)))) rfl h.left
        exact this
      have hk3 : Keep F w ((w.setCell ⟨g, i, none⟩ (.int .u8 (x.toNat : Int))).setCell ⟨mb, 4, none⟩ (.int .i64 (wrap64 (wr + 1)))) :=
        ((Keep.refl F w).setCell (p := ⟨g, i, none⟩) (fun _ => hFg) _).setCell (p := ⟨mb, 4, none⟩) (fun _ => h.fb) _
      rw [ha] at hc
      go_enter Tryz.func128, Tryz.ntmps128
      go_wp2_with fail
      refine hl.mono ?_
      rintro e w1 ⟨rfl, rfl⟩
      go_wp2_with fail
      go_ret
      exact ⟨rfl, ⟨_, _, h3⟩, hk3, by simp [World.setCell]⟩
end Go.Proofs.YtbkkfkbgcklkgaaGreat
/- A device in memory: its blocks are told apart by a colour each. -/
namespace Go.Proofs.YtbkkfkbgcklkgaaGreat
open Go.RowKit
set_option maxHeartbeats 4000000
set_option maxRecDepth 100000

/-- The blocks of a colour. -/
def Of (κ : Nat → Option Nat) (t : Nat) : Nat → Prop := fun x => κ x = some t
/-- What was made between two worlds is of colour t. -/
def paint (κ : Nat → Option Nat) (t : Nat) (w w' : World) : Nat → Option Nat := fun x => if w.heap.size ≤ x then (if x < w'.heap.size then some t else none) else κ x
theorem Of.ne {κ : Nat → Option Nat} {t s x : Nat} (h : Of κ t x) (hne : t ≠ s) : ¬ Of κ s x := fun h' => hne (Option.some.inj (h.symm.trans h'))
section
variable {κ : Nat → Option Nat} {t s x B : Nat} {w w' w1 w2 : World} {F : Nat → Prop}
theorem paint_old (h : Of κ s x) (hlo : ∀ x, κ x ≠ none → B ≤ x ∧ x < w.heap.size) : Of (paint κ t w w') s x := by
  have := (hlo x (by rw [show κ x = some s from h]; simp)).2
  unfold Of paint
  rw [if_neg (by omega)]
  exact h
theorem paint_lo (hlo : ∀ x, κ x ≠ none → B ≤ x ∧ x < w.heap.size) (hB : B ≤ w.heap.size) (hs : w.heap.size ≤ w'.heap.size) : ∀ x, paint κ t w w' x ≠ none → B ≤ x ∧ x < w'.heap.size := by
  intro x hx
  unfold paint at hx
  split at hx
  · split at hx
    · omega
    · exact absurd rfl hx
  · have := hlo x hx; omega
theorem paint_new (h1 : w.heap.size ≤ x) (h2 : x < w'.heap.size) : Of (paint κ t w w') t x := by
  unfold Of paint
  rw [if_pos h1, if_pos h2]
theorem paint_sub (hF : ∀ x, κ x ≠ none → F x) : ∀ x, paint κ t w w' x ≠ none → grow F w w' x := by
  intro x hx
  unfold paint at hx
  split at hx
  · rename_i h1
    split at hx
    · rename_i h2; exact .inr ⟨h1, h2⟩
    · exact absurd rfl hx
  · exact .inl (hF x hx)
end
/-- The device's cells. -/
def devCells (m : DevM) (mb c d v g : Nat) (val : Value) : Array Value :=
  #[.int .u32 m.p.code, .int .i64 m.p.out, .int .i64 m.p.inn, .int .i64 m.p.watch, .int .u32 m.p.count, .pointer (some ⟨mb, 0, none⟩), .int .u32 m.max, .pointer (some ⟨c, 0, none⟩), .pointer (some ⟨d, 0, none⟩), .pointer (some ⟨v, 0, none⟩), .pointer (some ⟨g, 0, none⟩),
    .int .i64 m.state, .int .u32 m.session, .int .u32 m.number, .int .u32 m.sent, .int .i64 m.odd, val, .bool m.hold]
/-- A cell over the memory at mb. -/
def CellIs (w : World) (c mb : Nat) (k : CellM) : Prop := Blk w c 150 #[.pointer (some ⟨mb, 0, none⟩), .int .u32 k.max, .int .u32 k.value, .bool k.dead]
/-- Colours: 0 the device's block, 1 its dog, 2 its valve, 3 its log, 4 its value, 5 its memory, 6 its cell. -/
structure DevAt (B : Nat) (w : World) (a mb : Nat) (m : DevM) (κ : Nat → Option Nat) (c d v g : Nat) (val : Value) : Prop where
  blk : Blk w a 109 (devCells m mb c d v g val)
  dog : DogIs w d m.p.watch m.since
  valve : ValveIs w v m.valve m.p.out (Of κ 2)
  log : DiagIs w g m.log (Of κ 3)
  value : w.ownsRow 0 5 1 val m.value.length (u8c m.value)
  mem : MemIs w mb m.m (Of κ 5)
  cell : CellIs w c mb m.cell
  ka : Of κ 0 a
  kd : Of κ 1 d
  kx : ∀ x, val.ownBlock = some x → Of κ 4 x
  kc : Of κ 6 c
  lo : ∀ x, κ x ≠ none → B ≤ x ∧ x < w.heap.size
/-- A device whose blocks lie in F, from B on. -/
def DevIs (B : Nat) (w : World) (a mb : Nat) (m : DevM) (F : Nat → Prop) : Prop := (∃ κ c d v g val, DevAt B w a mb m κ c d v g val ∧ ∀ x, κ x ≠ none → F x) ∧ ∀ x, F x → B ≤ x ∧ x < w.heap.size
/-- What a call on it leaves. -/
structure DevTo (B : Nat) (w : World) (a mb : Nat) (m : DevM) (F : Nat → Prop) (w' : World) : Prop where
  is_ : DevIs B w' a mb m (grow F w w')
  keep : Keep F w w'
section
variable {B : Nat} {w w' w1 w2 : World} {a mb c d v g : Nat} {m m' m1 m2 : DevM} {κ κ' : Nat → Option Nat} {val : Value} {F F' S : Nat → Prop}
theorem DevAt.inF (h : DevAt B w a mb m κ c d v g val) {t x : Nat} (hx : Of κ t x) : B ≤ x ∧ x < w.heap.size := h.lo x (by rw [show κ x = some t from hx]; simp)
theorem DevAt.Ble (h : DevAt B w a mb m κ c d v g val) : B ≤ w.heap.size := by have := h.inF h.ka; omega
theorem DevAt.keepS (h : DevAt B w a mb m κ c d v g val) (hk : Keep S w w') (hS : ∀ x, κ x ≠ none → ¬ S x) : DevAt B w' a mb m κ c d v g val :=
  have hS' : ∀ t x, Of κ t x → ¬ S x := fun t x hx => hS x (by rw [show κ x = some t from hx]; simp)
  { blk := h.blk.keep hk (hS' _ _ h.ka)
    dog := Blk.keep h.dog hk (hS' _ _ h.kd)
    valve := h.valve.keep hk (hS' _) (fun _ h => h)
    log := h.log.keep hk (hS' _) (fun _ h => h)
    value := ownsRow_keep h.value hk (fun x hx => hS' _ _ (h.kx x hx))
    mem := h.mem.keep hk (hS' _) (fun _ h => h)
    cell := Blk.keep h.cell hk (hS' _ _ h.kc)
    ka := h.ka
    kd := h.kd
    kx := h.kx
    kc := h.kc
    lo := fun x hx => by have := h.lo x hx; have := hk.size; omega }
theorem DevAt.below (h : DevAt B w a mb m κ c d v g val) (hb : Below w.heap.size w w') : DevAt B w' a mb m κ c d v g val := h.keepS (S := fun _ => False) (Keep.of_below hb) (fun _ _ h => h)
theorem DevAt.drew (h : DevAt B w a mb m κ c d v g val) : DevAt B w.drew a mb m κ c d v g val := h.keepS (S := fun _ => False) (Keep.refl _ w).drew (fun _ _ h => h)
theorem DevAt.drewN (h : DevAt B w a mb m κ c d v g val) (n : Nat) : DevAt B (w.drewN n) a mb m κ c d v g val := h.keepS (S := fun _ => False) ((Keep.refl _ w).drewN n) (fun _ _ h => h)
/-- Behind a store into the device's own block. -/
theorem DevAt.upd (h : DevAt B w a mb m κ c d v g val) (hk : Keep (fun x => x = a) w w') (hs : w'.heap.size = w.heap.size) (hb : Blk w' a 109 (devCells m' mb c d v g val)) (e1 : m'.p = m.p) (e2 : m'.since = m.since) (e3 : m'.valve = m.valve) (e4 : m'.log = m.log) (e5 : m'.value = m.value) (e6 : m'.m = m.m) (e7 : m'.cell = m.cell) :
    DevAt B w' a mb m' κ c d v g val :=
  have hS : ∀ t x, t ≠ 0 → Of κ t x → ¬ x = a := fun t x ht hx e => (hx.ne ht) (e ▸ h.ka)
  { blk := hb
    dog := by rw [e1, e2]; exact Blk.keep h.dog hk (hS 1 _ (by decide) h.kd)
    valve := by rw [e1, e3]; exact h.valve.keep hk (fun x => hS 2 x (by decide)) (fun _ h => h)
    log := by rw [e4]; exact h.log.keep hk (fun x => hS 3 x (by decide)) (fun _ h => h)
    value := by rw [e5]; exact ownsRow_keep h.value hk (fun x hx => hS 4 x (by decide) (h.kx x hx))
    mem := by rw [e6]; exact h.mem.keep hk (fun x => hS 5 x (by decide)) (fun _ h => h)
    cell := by rw [e7]; exact Blk.keep h.cell hk (hS 6 _ (by decide) h.kc)
    ka := h.ka
    kd := h.kd
    kx := h.kx
    kc := h.kc
    lo := by rw [hs]; exact h.lo }
/-- Behind a call on a part: the other parts, in the new colours. -/
theorem DevAt.rest (h : DevAt B w a mb m κ c d v g val) (t : Nat) (hk : Keep (Of κ t) w w') :
    (t ≠ 0 → Blk w' a 109 (devCells m mb c d v g val)) ∧ (t ≠ 1 → DogIs w' d m.p.watch m.since) ∧ (t ≠ 2 → ValveIs w' v m.valve m.p.out (Of (paint κ t w w') 2)) ∧ (t ≠ 3 → DiagIs w' g m.log (Of (paint κ t w w') 3)) ∧
    (t ≠ 4 → w'.ownsRow 0 5 1 val m.value.length (u8c m.value)) ∧ (t ≠ 5 → MemIs w' mb m.m (Of (paint κ t w w') 5)) ∧ (t ≠ 6 → CellIs w' c mb m.cell) ∧
    Of (paint κ t w w') 0 a ∧ Of (paint κ t w w') 1 d ∧ (∀ x, val.ownBlock = some x → Of (paint κ t w w') 4 x) ∧ Of (paint κ t w w') 6 c ∧ ∀ x, paint κ t w w' x ≠ none → B ≤ x ∧ x < w'.heap.size :=
  ⟨fun ht => h.blk.keep hk (h.ka.ne (Ne.symm ht)), fun ht => Blk.keep h.dog hk (h.kd.ne (Ne.symm ht)), fun ht => h.valve.keep hk (fun x hx => hx.ne (Ne.symm ht)) (fun x hx => paint_old hx h.lo), fun ht => h.log.keep hk (fun x hx => hx.ne (Ne.symm ht)) (fun x hx => paint_old hx h.lo),
    fun ht => ownsRow_keep h.value hk (fun x hx => (h.kx x hx).ne (Ne.symm ht)), fun ht => h.mem.keep hk (fun x hx => hx.ne (Ne.symm ht)) (fun x hx => paint_old hx h.lo), fun ht => Blk.keep h.cell hk (h.kc.ne (Ne.symm ht)),
    paint_old h.ka h.lo, paint_old h.kd h.lo, fun x hx => paint_old (h.kx x hx) h.lo, paint_old h.kc h.lo, paint_lo h.lo h.Ble hk.size⟩
theorem paint_of {t : Nat} {FV : Nat → Prop} (hlo : ∀ x, κ x ≠ none → B ≤ x ∧ x < w.heap.size) (hF : ∀ x, FV x → Of κ t x ∨ (w.heap.size ≤ x ∧ x < w'.heap.size)) : ∀ x, FV x → Of (paint κ t w w') t x := fun x hx => (hF x hx).elim (fun h => paint_old h hlo) (fun h => paint_new h.1 h.2)
theorem DevAt.onValve (h : DevAt B w a mb m κ c d v g val) {V' : ValveM} {FV : Nat → Prop} (hv : ValveIs w' v V' m.p.out FV) (hk : Keep (Of κ 2) w w') (hF : ∀ x, FV x → Of κ 2 x ∨ (w.heap.size ≤ x ∧ x < w'.heap.size)) :
    DevAt B w' a mb { m with valve := V' } (paint κ 2 w w') c d v g val := by
  obtain ⟨h0, h1, _, h3, h4, h5, h6, k0, k1, k4, k6, lo⟩ := h.rest 2 hk
  exact ⟨h0 (by decide), h1 (by decide), hv.keep (S := fun _ => False) (Keep.refl _ _) (fun _ _ h => h) (paint_of h.lo hF), h3 (by decide), h4 (by decide), h5 (by decide), h6 (by decide), k0, k1, k4, k6, lo⟩
theorem DevAt.onLog (h : DevAt B w a mb m κ c d v g val) {L' : List Rec} {FL : Nat → Prop} (hl : DiagIs w' g L' FL) (hk : Keep (Of κ 3) w w') (hF : ∀ x, FL x → Of κ 3 x ∨ (w.heap.size ≤ x ∧ x < w'.heap.size)) :
    DevAt B w' a mb { m with log := L' } (paint κ 3 w w') c d v g val := by
  obtain ⟨h0, h1, h2, _, h4, h5, h6, k0, k1, k4, k6, lo⟩ := h.rest 3 hk
  exact ⟨h0 (by decide), h1 (by decide), h2 (by decide), hl.keep (S := fun _ => False) (Keep.refl _ _) (fun _ _ h => h) (paint_of h.lo hF), h4 (by decide), h5 (by decide), h6 (by decide), k0, k1, k4, k6, lo⟩
theorem DevAt.onMem (h : DevAt B w a mb m κ c d v g val) {M' : MemM} (hm : MemTo w mb M' (Of κ 5) w') : DevAt B w' a mb { m with m := M' } (paint κ 5 w w') c d v g val := by
  obtain ⟨h0, h1, h2, h3, h4, _, h6, k0, k1, k4, k6, lo⟩ := h.rest 5 hm.keep
  exact ⟨h0 (by decide), h1 (by decide), h2 (by decide), h3 (by decide), h4 (by decide), hm.is_.keep (S := fun _ => False) (Keep.refl _ _) (fun _ _ h => h) (fun x hx => paint_old hx h.lo), h6 (by decide), k0, k1, k4, k6, lo⟩
theorem DevAt.onDog (h : DevAt B w a mb m κ c d v g val) {s' : Int} (hd : DogIs w' d m.p.watch s') (hk : Keep (fun x => x = d) w w') : DevAt B w' a mb { m with since := s' } (paint κ 1 w w') c d v g val := by
  obtain ⟨h0, _, h2, h3, h4, h5, h6, k0, k1, k4, k6, lo⟩ := h.rest 1 (hk.mono (fun x _ e => e ▸ h.kd))
  exact ⟨h0 (by decide), hd, h2 (by decide), h3 (by decide), h4 (by decide), h5 (by decide), h6 (by decide), k0, k1, k4, k6, lo⟩
/-- Behind a call on the cell (and its memory). -/
theorem DevAt.onCell (h : DevAt B w a mb m κ c d v g val) {M' : MemM} {C' : CellM} (hm : MemIs w' mb M' (Of κ 5)) (hc : CellIs w' c mb C') (hk : Keep (fun x => Of κ 5 x ∨ x = c) w w') : DevAt B w' a mb { m with m := M', cell := C' } κ c d v g val :=
  have hS : ∀ t x, t ≠ 5 → t ≠ 6 → Of κ t x → ¬ (Of κ 5 x ∨ x = c) := fun t x h5 h6 hx e => e.elim (hx.ne h5) (fun e => (hx.ne h6) (e ▸ h.kc))
  { blk := h.blk.keep hk (hS 0 _ (by decide) (by decide) h.ka)
    dog := Blk.keep h.dog hk (hS 1 _ (by decide) (by decide) h.kd)
    valve := h.valve.keep hk (fun x => hS 2 x (by decide) (by decide)) (fun _ h => h)
    log := h.log.keep hk (fun x => hS 3 x (by decide) (by decide)) (fun _ h => h)
    value := ownsRow_keep h.value hk (fun x hx => hS 4 x (by decide) (by decide) (h.kx x hx))
    mem := hm
    cell := hc
    ka := h.ka
    kd := h.kd
    kx := h.kx
    kc := h.kc
    lo := fun x hx => by have := h.lo x hx; have := hk.size; omega }
theorem DevIs.of (h : DevAt B w a mb m κ c d v g val) (hF : ∀ x, κ x ≠ none → F x) (hlo : ∀ x, F x → B ≤ x ∧ x < w.heap.size) : DevIs B w a mb m F := ⟨⟨κ, c, d, v, g, val, h, hF⟩, hlo⟩
theorem DevIs.lo (h : DevIs B w a mb m F) : ∀ x, F x → B ≤ x ∧ x < w.heap.size := h.2
theorem DevIs.Fa (h : DevIs B w a mb m F) : F a := by
  obtain ⟨⟨κ, c, d, v, g, val, h, hF⟩, _⟩ := h
  exact hF a (by rw [show κ a = some 0 from h.ka]; simp)
theorem DevIs.Ble (h : DevIs B w a mb m F) : B ≤ w.heap.size := by have := h.lo a h.Fa; omega
theorem DevIs.keepS (h : DevIs B w a mb m F) (hk : Keep S w w') (hS : ∀ x, F x → ¬ S x) : DevIs B w' a mb m F := by
  obtain ⟨⟨κ, c, d, v, g, val, h, hF⟩, hlo⟩ := h
  exact ⟨⟨κ, c, d, v, g, val, h.keepS hk (fun x hx => hS x (hF x hx)), hF⟩, fun x hx => by have := hlo x hx; have := hk.size; omega⟩
theorem DevIs.below (h : DevIs B w a mb m F) (hb : Below w.heap.size w w') : DevIs B w' a mb m F := h.keepS (S := fun _ => False) (Keep.of_below hb) (fun _ _ h => h)
/-- From a device that was at w, with its blocks in F. -/
theorem DevAt.toIs (h : DevAt B w1 a mb m1 κ c d v g val) (h0 : DevIs B w a mb m F) (hF : ∀ x, κ x ≠ none → grow F w w1 x) (hk : Keep F w w1) : DevTo B w a mb m1 F w1 :=
  ⟨⟨⟨κ, c, d, v, g, val, h, hF⟩, grow_fb h0.lo h0.Ble hk.size⟩, hk⟩
theorem DevTo.refl (h : DevIs B w a mb m F) : DevTo B w a mb m F w :=
  ⟨⟨by obtain ⟨⟨κ, c, d, v, g, val, h, hF⟩, _⟩ := h; exact ⟨κ, c, d, v, g, val, h, fun x hx => .inl (hF x hx)⟩, grow_fb h.lo h.Ble (Nat.le_refl _)⟩, Keep.refl _ _⟩
theorem DevTo.trans (h0 : DevIs B w a mb m F) (h1 : DevTo B w a mb m1 F w1) (h2 : DevTo B w1 a mb m2 (grow F w w1) w2) : DevTo B w a mb m2 F w2 := by
  have s1 := h1.keep.size
  have s2 := h2.keep.size
  obtain ⟨⟨κ, c, d, v, g, val, h, hF⟩, _⟩ := h2.is_
  refine ⟨⟨⟨κ, c, d, v, g, val, h, fun x hx => grow_grow s1 s2 x (hF x hx)⟩, grow_fb h0.lo h0.Ble (by omega)⟩, h1.keep.andThen h2.keep ?_⟩
  intro x hx hg
  rcases hg with hg | hg
  · exact hg
  · omega
theorem DevTo.ofBelow (h : DevIs B w a mb m F) (hb : Below w.heap.size w w') : DevTo B w a mb m F w' := by
  have h2 := h.below hb
  obtain ⟨⟨κ, c, d, v, g, val, h1, hF⟩, _⟩ := h2
  exact h1.toIs h (fun x hx => .inl (hF x hx)) (Keep.of_below hb)
theorem DevTo.below (h0 : DevIs B w a mb m F) (h : DevTo B w a mb m1 F w1) (hb : Below w1.heap.size w1 w2) : DevTo B w a mb m1 F w2 := DevTo.trans h0 h (.ofBelow h.is_ hb)
end
end Go.Proofs.YtbkkfkbgcklkgaaGreat
/- A memory's words outlive the power: whatever write is refused, the greatest word stands. Plain. -/
namespace Go.Proofs.YtbkkfkbgcklkgaaGreat

theorem getD_set8 (b : List UInt8) (a i : Nat) (c : UInt8) : (b.set a c).getD i 0 = if a = i ∧ i < b.length then c else b.getD i 0 := by
  simp only [List.getD_eq_getElem?_getD, List.getElem?_set]
  by_cases h : a = i
  · subst h
    by_cases hl : a < b.length
    · simp [hl]
    · simp [hl]
  · simp [h]
theorem byteOf_of (w : Int) (j : Nat) (x : BitVec 8) (h : x.toNat = (w % 4294967296).toNat / 2 ^ j % 256) (hj : j = 0 ∨ j = 8 ∨ j = 16 ∨ j = 24) : byteOf (w / (2 ^ j : Nat)) = ⟨x⟩ := by
  unfold byteOf
  congr 1
  apply BitVec.eq_of_toNat_eq
  rw [h, BitVec.toNat_ofInt]
  rcases hj with rfl | rfl | rfl | rfl <;> simp <;> omega
theorem ofWord_parts (w : Int) (h0 : 0 ≤ w) (h1 : w < 4294967296) : ((ofWord (byteOf (w / 16777216)) (byteOf (w / 65536)) (byteOf (w / 256)) (byteOf w)).toNat : Int) = w := by
  have e3 := byteOf_of w 24 ((BitVec.ofInt 32 w >>> 24).setWidth 8) (by simp [BitVec.toNat_ofInt, Nat.shiftRight_eq_div_pow]) (by omega)
  have e2 := byteOf_of w 16 ((BitVec.ofInt 32 w >>> 16).setWidth 8) (by simp [BitVec.toNat_ofInt, Nat.shiftRight_eq_div_pow]) (by omega)
  have e1 := byteOf_of w 8 ((BitVec.ofInt 32 w >>> 8).setWidth 8) (by simp [BitVec.toNat_ofInt, Nat.shiftRight_eq_div_pow]) (by omega)
  have e0 := byteOf_of w 0 ((BitVec.ofInt 32 w).setWidth 8) (by simp [BitVec.toNat_ofInt]) (by omega)
  simp only [Nat.reducePow, Int.cast_ofNat_Int, Int.ediv_one] at e0 e1 e2 e3
  rw [e0, e1, e2, e3, ofWord_wordOf, BitVec.toNat_ofInt]
  omega
namespace MemM
/-- Some of the writes, the first ones. -/
def put (b : List UInt8) (l : List (Nat × UInt8)) : List UInt8 := l.foldl (fun b x => b.set x.1 x.2) b
theorem put_length (l : List (Nat × UInt8)) : ∀ b : List UInt8, (put b l).length = b.length := by
  induction l with
  | nil => intro b; rfl
  | cons x r ih => intro b; exact (ih _).trans List.length_set
/-- Writes lay a beginning of what they are to lay; all of it where none is refused. -/
theorem writeAll_spec (l : List (Nat × UInt8)) : ∀ m : MemM, m.off = false → (∀ x ∈ l, x.1 < m.b.length) →
    ∃ j, (m.writeAll l).1.b = put m.b (l.take j) ∧ ((m.writeAll l).2 = 0 ∧ j = l.length ∧ (m.writeAll l).1.off = false ∧ (m.writeAll l).1.armed = m.armed ∨ (m.writeAll l).2 = 70 ∧ j < l.length ∧ m.armed = true) := by
  induction l with
  | nil => intro m ho _; exact ⟨0, rfl, .inl ⟨rfl, rfl, ho, rfl⟩⟩
  | cons x r ih =>
    intro m ho hl
    have hx : ¬ m.b.length ≤ x.1 := by have := hl x List.mem_cons_self; omega
    by_cases ha : (m.armed && m.left == 0) = true
    · have hw : m.write x.1 x.2 = ({ m with off := true }, 70) := by unfold write; rw [ho, if_neg (by simp), if_neg hx, if_pos ha]
      refine ⟨0, ?_, .inr ⟨?_, by simp, ?_⟩⟩
      · unfold writeAll; rw [hw, if_pos (by simp)]; rfl
      · unfold writeAll; rw [hw, if_pos (by simp)]
      · cases hm : m.armed <;> simp_all
    · have hw : m.write x.1 x.2 = ({ m with left := if m.armed then m.left - 1 else m.left, b := m.b.set x.1 x.2, writes := m.writes + 1 }, 0) := by
        unfold write; rw [ho, if_neg (by simp), if_neg hx, if_neg ha]
      obtain ⟨j, hb, hc⟩ := ih { m with left := if m.armed then m.left - 1 else m.left, b := m.b.set x.1 x.2, writes := m.writes + 1 } ho (fun y hy => by simpa using hl y (List.mem_cons_of_mem _ hy))
      have he : m.writeAll (x :: r) = writeAll { m with left := if m.armed then m.left - 1 else m.left, b := m.b.set x.1 x.2, writes := m.writes + 1 } r := by
        rw [writeAll, hw, if_neg (by simp)]
      rw [he]
      refine ⟨j + 1, ?_, ?_⟩
      · rw [hb]; rfl
      · rcases hc with ⟨c1, c2, c3, c4⟩ | ⟨c1, c2, c3⟩
        · exact .inl ⟨c1, by simp [c2], c3, c4⟩
        · exact .inr ⟨c1, by simp; omega, c3⟩
theorem put_far (l : List (Nat × UInt8)) (i : Nat) : ∀ b : List UInt8, (∀ x ∈ l, x.1 ≠ i) → (put b l).getD i 0 = b.getD i 0 := by
  induction l with
  | nil => intro b _; rfl
  | cons x r ih =>
    intro b h
    refine (ih (b.set x.1 x.2) fun y hy => h y (List.mem_cons_of_mem _ hy)).trans ?_
    rw [getD_set8, if_neg]
    exact fun c => h x List.mem_cons_self c.1
theorem put_at (b : List UInt8) (pre post : List (Nat × UInt8)) (x : Nat × UInt8) (i : Nat) (c : UInt8) (hx : x = (i, c)) (hi : i < b.length) (h : ∀ y ∈ post, y.1 ≠ i) : (put b (pre ++ x :: post)).getD i 0 = c := by
  subst hx
  have e : put b (pre ++ (i, c) :: post) = put ((put b pre).set i c) post := by unfold put; rw [List.foldl_append]; rfl
  rw [e, put_far post i _ h, getD_set8, if_pos ⟨rfl, by rw [put_length]; exact hi⟩]
theorem slotBytes_at (k : Nat) (w : Int) : ∀ x ∈ slotBytes k w, 5 * k ≤ x.1 ∧ x.1 < 5 * k + 5 := by
  unfold slotBytes
  simp
/-- What a slot holds behind some of its writes. -/
theorem slot_far (b : List UInt8) (k : Nat) (w : Int) (j i : Nat) (hi : i < 5 * k ∨ 5 * k + 5 ≤ i) : (put b ((slotBytes k w).take j)).getD i 0 = b.getD i 0 := by
  refine put_far _ _ _ fun x hx => ?_
  have := slotBytes_at k w x (List.mem_of_mem_take hx)
  omega
theorem slot_half (b : List UInt8) (k : Nat) (w : Int) (j : Nat) (h1 : 1 ≤ j) (h6 : j < 6) (hb : 5 * k < b.length) : (put b ((slotBytes k w).take j)).getD (5 * k) 0 = 0 := by
  have e : (slotBytes k w).take j = [] ++ (5 * k, 0) :: ([(5 * k + 1, byteOf (w / 16777216)), (5 * k + 2, byteOf (w / 65536)), (5 * k + 3, byteOf (w / 256)), (5 * k + 4, byteOf w)].take (j - 1)) := by
    have hcase : j = 1 ∨ j = 2 ∨ j = 3 ∨ j = 4 ∨ j = 5 := by omega
    rcases hcase with rfl | rfl | rfl | rfl | rfl <;> rfl
  rw [e]
  refine put_at b [] _ (5 * k, 0) (5 * k) 0 rfl hb fun y hy => ?_
  have := List.mem_of_mem_take hy
  simp at this
  rcases this with rfl | rfl | rfl | rfl <;> simp
theorem slot_whole (b : List UInt8) (k : Nat) (w : Int) (h0 : 0 ≤ w) (h1 : w < 4294967296) (hb : 5 * k + 5 ≤ b.length) :
    (put b (slotBytes k w)).getD (5 * k) 0 = 0xa5 ∧ numAt (put b (slotBytes k w)) (5 * k + 1) = w := by
  refine ⟨put_at b [(5 * k, 0), (5 * k + 1, byteOf (w / 16777216)), (5 * k + 2, byteOf (w / 65536)), (5 * k + 3, byteOf (w / 256)), (5 * k + 4, byteOf w)] [] _ (5 * k) 0xa5 rfl (by omega) (by simp), ?_⟩
  unfold numAt
  have e1 : (put b (slotBytes k w)).getD (5 * k + 1) 0 = byteOf (w / 16777216) := put_at b [(5 * k, 0)] [(5 * k + 2, byteOf (w / 65536)), (5 * k + 3, byteOf (w / 256)), (5 * k + 4, byteOf w), (5 * k, 0xa5)] _ _ _ rfl (by omega) (by simp)
  have e2 : (put b (slotBytes k w)).getD (5 * k + 1 + 1) 0 = byteOf (w / 65536) := put_at b [(5 * k, 0), (5 * k + 1, byteOf (w / 16777216))] [(5 * k + 3, byteOf (w / 256)), (5 * k + 4, byteOf w), (5 * k, 0xa5)] _ _ _ rfl (by omega) (by simp <;> omega)
  have e3 : (put b (slotBytes k w)).getD (5 * k + 1 + 2) 0 = byteOf (w / 256) := put_at b [(5 * k, 0), (5 * k + 1, byteOf (w / 16777216)), (5 * k + 2, byteOf (w / 65536))] [(5 * k + 4, byteOf w), (5 * k, 0xa5)] _ _ _ rfl (by omega) (by simp <;> omega)
  have e4 : (put b (slotBytes k w)).getD (5 * k + 1 + 3) 0 = byteOf w := put_at b [(5 * k, 0), (5 * k + 1, byteOf (w / 16777216)), (5 * k + 2, byteOf (w / 65536)), (5 * k + 3, byteOf (w / 256))] [(5 * k, 0xa5)] _ _ _ rfl (by omega) (by simp <;> omega)
  rw [e1, e2, e3, e4]
  exact ofWord_parts w h0 h1
theorem word_far {b c : List UInt8} {k : Nat} (h : ∀ i, 5 * k ≤ i → i < 5 * k + 5 → c.getD i 0 = b.getD i 0) : numAt c (5 * k + 1) = numAt b (5 * k + 1) := by
  unfold numAt
  rw [h (5 * k + 1) (by omega) (by omega), h (5 * k + 1 + 1) (by omega) (by omega), h (5 * k + 1 + 2) (by omega) (by omega), h (5 * k + 1 + 3) (by omega) (by omega)]
/-- A slot is written, or the power goes meanwhile. -/
theorem writeSlot_spec (m : MemM) (k : Nat) (w : Int) (hk : k < 2) (h0 : 0 ≤ w) (h1 : w < 4294967296) (ho : m.off = false) (hb : 10 ≤ m.b.length) :
    (m.writeSlot k w).1.b.length = m.b.length ∧ (m.writeSlot k w).1.holds (1 - k) = m.holds (1 - k) ∧ (m.writeSlot k w).1.word (1 - k) = m.word (1 - k) ∧
    ((m.writeSlot k w).2 = 0 ∧ (m.writeSlot k w).1.holds k = true ∧ (m.writeSlot k w).1.word k = w ∧ (m.writeSlot k w).1.off = false ∧ (m.writeSlot k w).1.armed = m.armed ∨
      (m.writeSlot k w).2 = 70 ∧ m.armed = true ∧ ((m.writeSlot k w).1.b = m.b ∨ (m.writeSlot k w).1.holds k = false)) := by
  obtain ⟨j, hj, hc⟩ := writeAll_spec (slotBytes k w) m ho (fun x hx => by have := slotBytes_at k w x hx; omega)
  have far : ∀ i, 5 * (1 - k) ≤ i → i < 5 * (1 - k) + 5 → (m.writeSlot k w).1.b.getD i 0 = m.b.getD i 0 := fun i hi1 hi2 => by
    unfold writeSlot
    rw [hj]
    exact slot_far _ _ _ _ _ (by omega)
  refine ⟨?_, ?_, word_far far, ?_⟩
  · unfold writeSlot; rw [hj, put_length]
  · unfold holds; rw [far _ (by omega) (by omega)]
  · rcases hc with ⟨c1, c2, c3, c4⟩ | ⟨c1, c2, c3⟩
    · have e : (m.writeSlot k w).1.b = put m.b (slotBytes k w) := by
        unfold writeSlot
        rw [hj, c2, List.take_length]
      have hs := slot_whole m.b k w h0 h1 (by omega)
      refine .inl ⟨c1, ?_, ?_, c3, c4⟩
      · unfold holds; rw [e, hs.1]; rfl
      · unfold word; rw [e, hs.2]
    · refine .inr ⟨c1, c3, ?_⟩
      have h6 : j < 6 := c2
      by_cases hj0 : j = 0
      · subst hj0
        left
        unfold writeSlot
        rw [hj]
        rfl
      · right
        unfold holds writeSlot
        rw [hj, slot_half _ _ _ _ (by omega) h6 (by omega)]
        rfl
/-- The greatest word that stands is V. -/
def Sound (m : MemM) (V : Int) : Prop :=
  10 ≤ m.b.length ∧ ((V = 0 ∧ m.holds 0 = false ∧ m.holds 1 = false) ∨
    (0 < V ∧ ∃ k, k < 2 ∧ m.holds k = true ∧ m.word k = V ∧ (m.holds (1 - k) = true → m.word (1 - k) ≤ V)))
theorem Sound.top {m : MemM} {V : Int} (h : m.Sound V) : m.top = V := by
  obtain ⟨_, ⟨rfl, h0, h1⟩ | ⟨hV, k, hk, hh, hw, ho⟩⟩ := h
  · unfold MemM.top; simp [h0, h1]
  · have hcase : k = 0 ∨ k = 1 := by omega
    rcases hcase with rfl | rfl
    · unfold MemM.top
      simp only [hh, hw, Bool.true_and, decide_eq_true hV, if_true]
      cases h1 : m.holds 1
      · simp
      · have := ho h1
        have : ¬ V < m.word 1 := by show ¬ V < m.word (1 - 0); omega
        simp [this]
    · unfold MemM.top
      simp only [hh, hw, Bool.true_and]
      cases h0 : m.holds 0
      · simp [hV]
      · have hle : m.word 0 ≤ V := ho h0
        by_cases hp : 0 < m.word 0
        · simp only [Bool.true_and, decide_eq_true hp, if_true]
          by_cases he : m.word 0 < V
          · simp [he]
          · simp only [decide_eq_false he, Bool.false_eq_true, if_false]; omega
        · simp [hp, hV]
theorem Sound.same {m m' : MemM} {V : Int} (h : m.Sound V) (hb : m'.b = m.b) : m'.Sound V := by
  unfold Sound holds word at *
  rw [hb]; exact h
theorem word_range (m : MemM) (k : Nat) : 0 ≤ m.word k ∧ m.word k < 4294967296 := by
  unfold word numAt
  have := (ofWord (m.b.getD (5 * k + 1) 0) (m.b.getD (5 * k + 1 + 1) 0) (m.b.getD (5 * k + 1 + 2) 0) (m.b.getD (5 * k + 1 + 3) 0)).isLt
  omega
theorem Sound.le {m : MemM} {V : Int} (h : m.Sound V) (k : Nat) (hk : k < 2) (hh : m.holds k = true) : m.word k ≤ V := by
  obtain ⟨_, ⟨_, h0, h1⟩ | ⟨hV, j, hj, hj1, hj2, ho⟩⟩ := h
  · have hcase : k = 0 ∨ k = 1 := by omega
    rcases hcase with rfl | rfl <;> simp_all
  · by_cases e : k = j
    · subst e; omega
    · have e' : k = 1 - j := by omega
      subst e'
      exact ho hh
theorem Sound.nonneg {m : MemM} {V : Int} (h : m.Sound V) : 0 ≤ V := by
  obtain ⟨_, ⟨rfl, _⟩ | ⟨hV, _⟩⟩ := h <;> omega
/-- Where the other slot keeps V and this one holds no more, V stands. -/
theorem Sound.of_other {m m' : MemM} {V : Int} (h : m.Sound V) (k : Nat) (hk : k < 2) (hl : m'.b.length = m.b.length) (h1 : m'.holds (1 - k) = m.holds (1 - k)) (h2 : m'.word (1 - k) = m.word (1 - k))
    (hV : 0 < V → m.holds (1 - k) = true ∧ m.word (1 - k) = V) (hk' : m'.holds k = true → 0 < V ∧ m'.word k ≤ V) : m'.Sound V := by
  refine ⟨by rw [hl]; exact h.1, ?_⟩
  by_cases h0 : 0 < V
  · obtain ⟨a, b⟩ := hV h0
    refine .inr ⟨h0, 1 - k, by omega, by rw [h1]; exact a, by rw [h2]; exact b, fun hh => ?_⟩
    rw [show 1 - (1 - k) = k by omega] at hh ⊢
    exact (hk' hh).2
  · have := h.nonneg
    obtain rfl : V = 0 := by omega
    obtain ⟨_, ⟨_, g0, g1⟩ | ⟨hV', _⟩⟩ := h
    · have hn : m'.holds k = false := by
        cases hh : m'.holds k
        · rfl
        · exact absurd (hk' hh).1 (by omega)
      have ho : m'.holds (1 - k) = false := by
        rw [h1]
        have hcase : k = 0 ∨ k = 1 := by omega
        rcases hcase with rfl | rfl <;> assumption
      have hcase : k = 0 ∨ k = 1 := by omega
      rcases hcase with rfl | rfl
      · exact .inl ⟨rfl, hn, ho⟩
      · exact .inl ⟨rfl, ho, hn⟩
    · omega
theorem Sound.mend {m : MemM} {V : Int} (h : m.Sound V) (k : Nat) (hk : k < 2) (ho : m.off = false) :
    (m.mend k).1.Sound V ∧ ((m.mend k).2 = 0 ∧ (m.mend k).1.off = false ∧ (m.mend k).1.armed = m.armed ∨ (m.mend k).2 = 70 ∧ m.armed = true) := by
  have hb := h.1
  by_cases c1 : (!m.holds k && m.holds (1 - k)) = true
  · have e : m.mend k = m.writeSlot k (m.word (1 - k)) := by unfold MemM.mend; rw [if_pos c1]
    simp only [Bool.and_eq_true, Bool.not_eq_true'] at c1
    obtain ⟨w0, w1⟩ := m.word_range (1 - k)
    obtain ⟨s1, s2, s3, s4⟩ := writeSlot_spec m k (m.word (1 - k)) hk w0 w1 ho hb
    have hle := h.le (1 - k) (by omega) c1.2
    have hV : 0 < V ∧ m.word (1 - k) = V := by
      obtain ⟨_, ⟨_, g0, g1⟩ | ⟨hV, j, hj, hj1, hj2, _⟩⟩ := h
      · have hcase : k = 0 ∨ k = 1 := by omega
        rcases hcase with rfl | rfl <;> simp_all
      · refine ⟨hV, ?_⟩
        by_cases e : j = k
        · subst e; rw [c1.1] at hj1; cases hj1
        · have : j = 1 - k := by omega
          subst this; exact hj2
    rw [e]
    refine ⟨h.of_other k hk s1 s2 s3 (fun _ => ⟨c1.2, hV.2⟩) (fun hh => ⟨hV.1, ?_⟩), ?_⟩
    · rcases s4 with ⟨_, _, a3, _⟩ | ⟨_, _, a3 | a3⟩
      · rw [a3]; exact hle
      · have : (m.writeSlot k (m.word (1 - k))).1.holds k = m.holds k := by unfold holds; rw [a3]
        rw [this, c1.1] at hh; cases hh
      · rw [a3] at hh; cases hh
    · rcases s4 with ⟨a1, _, _, a4, a5⟩ | ⟨a1, a2, _⟩
      · exact .inl ⟨a1, a4, a5⟩
      · exact .inr ⟨a1, a2⟩
  · by_cases c2 : (!m.holds k && m.b.getD (5 * k) 0 != 0) = true
    · have e : m.mend k = m.write (5 * k) 0 := by unfold MemM.mend; rw [if_neg c1, if_pos c2]
      have hx : ¬ m.b.length ≤ 5 * k := by omega
      rw [e]
      by_cases ha : (m.armed && m.left == 0) = true
      · have hw : m.write (5 * k) 0 = ({ m with off := true }, 70) := by unfold write; rw [ho, if_neg (by simp), if_neg hx, if_pos ha]
        rw [hw]
        exact ⟨h.same rfl, .inr ⟨rfl, by cases hm : m.armed <;> simp_all⟩⟩
      · have hw : m.write (5 * k) 0 = ({ m with left := if m.armed then m.left - 1 else m.left, b := m.b.set (5 * k) 0, writes := m.writes + 1 }, 0) := by
          unfold write; rw [ho, if_neg (by simp), if_neg hx, if_neg ha]
        rw [hw]
        have hk0 : m.holds k = false := by simp at c2; exact c2.1
        have far : ∀ i, 5 * (1 - k) ≤ i → i < 5 * (1 - k) + 5 → (m.b.set (5 * k) 0).getD i 0 = m.b.getD i 0 := fun i h1 h2 => by
          rw [getD_set8, if_neg (by omega)]
        refine ⟨h.of_other k hk List.length_set (by unfold holds; rw [show (m.b.set (5 * k) 0).getD (5 * (1 - k)) 0 = _ from far _ (by omega) (by omega)]) (word_far far) (fun hV => ?_) (fun hh => ?_), .inl ⟨rfl, ho, rfl⟩⟩
        · obtain ⟨_, ⟨h0, _⟩ | ⟨_, j, hj, hj1, hj2, _⟩⟩ := h
          · omega
          · by_cases e : j = k
            · subst e; rw [hk0] at hj1; cases hj1
            · have : j = 1 - k := by omega
              subst this; exact ⟨hj1, hj2⟩
        · exfalso
          unfold holds at hh
          simp only [getD_set8] at hh
          split at hh <;> simp_all
    · have e : m.mend k = (m, 0) := by unfold MemM.mend; rw [if_neg c1, if_neg c2]
      rw [e]
      exact ⟨h, .inl ⟨rfl, ho, rfl⟩⟩
end MemM
theorem openM_sound {m : MemM} {V max : Int} (h : m.Sound V) (ho : m.off = false) (hm : max ≠ 0) :
    (openM m max).1.Sound V ∧ ((openM m max).2 = (some ⟨max, V, false⟩, 0) ∧ (openM m max).1.off = false ∧ (openM m max).1.armed = m.armed ∨ (openM m max).2 = (none, 70) ∧ m.armed = true) := by
  have hb := h.1
  have e0 : ¬ (max = 0 ∨ m.b.length < 10) := by omega
  have ht := h.top
  obtain ⟨a1, a2⟩ := h.mend 0 (by omega) ho
  unfold openM
  rw [if_neg e0, ho, if_neg (by simp)]
  rcases a2 with ⟨a2, a3, a4⟩ | ⟨a2, a3⟩
  · obtain ⟨b1, b2⟩ := a1.mend 1 (by omega) a3
    simp only [a2, ne_eq, not_true_eq_false, if_false]
    rcases b2 with ⟨b2, b3, b4⟩ | ⟨b2, b3⟩
    · simp only [b2, not_true_eq_false, if_false]
      exact ⟨b1, .inl ⟨by rw [ht], b3, by rw [b4, a4]⟩⟩
    · have : ¬ (70 : Int) = 0 := by omega
      simp only [b2, this, not_false_eq_true, if_true]
      exact ⟨b1, .inr ⟨trivial, by rw [← a4]; exact b3⟩⟩
  · have : ¬ (70 : Int) = 0 := by omega
    simp only [a2, ne_eq, this, not_false_eq_true, if_true]
    exact ⟨a1, .inr ⟨trivial, a3⟩⟩
theorem next_sound {m : MemM} {V max : Int} (h : m.Sound V) (ho : m.off = false) (hV : V < max) (hmax : max < 4294967296) :
    (((⟨max, V, false⟩ : CellM).next m).2.2 = (V + 1, 0) ∧ ((⟨max, V, false⟩ : CellM).next m).1 = ⟨max, V + 1, false⟩ ∧ ((⟨max, V, false⟩ : CellM).next m).2.1.Sound (V + 1) ∧ ((⟨max, V, false⟩ : CellM).next m).2.1.off = false) ∨
    (((⟨max, V, false⟩ : CellM).next m).2.2 = (0, 70) ∧ ((⟨max, V, false⟩ : CellM).next m).2.1.Sound V ∧ m.armed = true) := by
  have hb := h.1
  have hn := h.nonneg
  obtain ⟨k, hk, hke, hkV⟩ : ∃ k, k < 2 ∧ (if m.holds 0 && (!m.holds 1 || decide (m.word 1 < m.word 0)) then 1 else 0) = k ∧ (0 < V → m.holds (1 - k) = true ∧ m.word (1 - k) = V) := by
    obtain ⟨_, ⟨rfl, g0, g1⟩ | ⟨hV, j, hj, hj1, hj2, hj3⟩⟩ := h
    · exact ⟨0, by omega, by simp [g0], fun h => by omega⟩
    · have hcase : j = 0 ∨ j = 1 := by omega
      rcases hcase with rfl | rfl
      · by_cases c : (!m.holds 1 || decide (m.word 1 < m.word 0)) = true
        · exact ⟨1, by omega, by simp [hj1, c], fun _ => ⟨hj1, hj2⟩⟩
        · refine ⟨0, by omega, by rw [hj1, Bool.true_and, if_neg c], fun _ => ?_⟩
          simp at c
          have := hj3 c.1
          exact ⟨c.1, by show m.word 1 = V; have : m.word 1 ≤ V := this; omega⟩
      · refine ⟨0, by omega, ?_, fun _ => ⟨hj1, hj2⟩⟩
        rw [if_neg]
        intro c
        simp only [hj1, hj2, Bool.not_true, Bool.false_or, Bool.and_eq_true, decide_eq_true_eq] at c
        have : m.word 0 ≤ V := hj3 c.1
        omega
  obtain ⟨s1, s2, s3, s4⟩ := MemM.writeSlot_spec m k (V + 1) hk (by omega) (by omega) ho hb
  have e : (⟨max, V, false⟩ : CellM).next m = (if (m.writeSlot k (V + 1)).2 ≠ 0 then (⟨max, V, true⟩, (m.writeSlot k (V + 1)).1, 0, 70) else (⟨max, V + 1, false⟩, (m.writeSlot k (V + 1)).1, V + 1, 0)) := by
    unfold CellM.next
    simp only [ho, Bool.or_false, Bool.false_eq_true, if_false]
    rw [if_neg (by omega), hke]
  rw [e]
  rcases s4 with ⟨a1, a2, a3, a4, _⟩ | ⟨a1, a2, a3⟩
  · left
    rw [if_neg (by simp [a1])]
    refine ⟨rfl, rfl, ⟨by show 10 ≤ (m.writeSlot k (V + 1)).1.b.length; rw [s1]; exact hb, .inr ⟨by omega, k, hk, a2, a3, fun hh => ?_⟩⟩, a4⟩
    rw [s3]
    rw [s2] at hh
    have := h.le (1 - k) (by omega) hh
    omega
  · right
    rw [if_pos (by simp [a1])]
    refine ⟨rfl, ?_, a2⟩
    rcases a3 with a3 | a3
    · exact h.same a3
    · exact h.of_other k hk s1 s2 s3 hkV (fun hh => by rw [a3] at hh; cases hh)
end Go.Proofs.YtbkkfkbgcklkgaaGreat
