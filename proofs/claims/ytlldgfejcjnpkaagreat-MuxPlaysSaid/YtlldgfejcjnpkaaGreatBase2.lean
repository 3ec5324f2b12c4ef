/- The base of the laws, part 2: contracts and plain lemmas, no statement. -/
import Derived.Test.YtlldgfejcjnpkaaGreatBase1
set_option linter.unusedVariables false
/- Units, sets, valves, dogs, hosts: plain. -/
namespace Go.Proofs.YtlldgfejcjnpkaaGreat

/-- A unit. -/
structure UnitM where
  kind : Int
  code : Int
  session : Int
  number : Int
  flags : Int
  data : List UInt8
  deriving DecidableEq
def UnitM.zero : UnitM := ⟨0, 0, 0, 0, 0, []⟩
def isHost (k : Int) : Bool := decide (1 ≤ k) && decide (k ≤ 5)
def isDev (k : Int) : Bool := decide (17 ≤ k) && decide (k ≤ 22)
def dataOk (k : Int) (n : Nat) : Bool := if k = 1 ∨ k = 2 ∨ k = 17 then n == 4 else if k = 4 ∨ k = 20 then decide (1 ≤ n ∧ n ≤ 8) else n == 0
def sessOk (k s : Int) : Bool := if k = 1 then s == 0 else if k = 22 then true else s != 0
def numOk (k n : Int) : Bool := decide (k = 4 ∨ k = 20 ∨ k = 5 ∨ k = 21) == (n != 0)
def flagOk (k f : Int) : Bool := decide (0 ≤ f ∧ f ≤ 15) && (decide (k = 4 ∨ k = 20) || f == 0)
def UnitM.lawful (u : UnitM) : Int :=
  if !isHost u.kind && !isDev u.kind then 43 else if u.code == 0 then 44 else if !dataOk u.kind u.data.length then 45
  else if !sessOk u.kind u.session then 46 else if !numOk u.kind u.number then 47 else if !flagOk u.kind u.flags then 48 else 0
/-- A byte of a number. -/
def byteOf (n : Int) : UInt8 := ⟨BitVec.ofInt 8 n⟩
/-- The four bytes of a number. -/
def wordBytes (n : Int) : List UInt8 := wordOf (BitVec.ofInt 32 n)
def UnitM.body (u : UnitM) : List UInt8 := [byteOf u.kind] ++ wordBytes u.code ++ wordBytes u.session ++ wordBytes u.number ++ [byteOf u.flags, byteOf u.data.length] ++ u.data
def UnitM.encode (u : UnitM) : List UInt8 := if u.lawful = 0 then sealM u.body else []
/-- The number of four bytes at a place. -/
def numAt (b : List UInt8) (i : Nat) : Int := ((ofWord (b.getD i 0) (b.getD (i + 1) 0) (b.getD (i + 2) 0) (b.getD (i + 3) 0)).toNat : Int)
def unitOf (b : List UInt8) : UnitM := ⟨(b.getD 0 0).toNat, numAt b 1, numAt b 5, numAt b 9, (b.getD 13 0).toNat, (b.drop 15).take (b.length - 19)⟩
def decodeM (b : List UInt8) : UnitM × Int :=
  if b.length < 19 then (.zero, 40) else if b.length > 27 then (.zero, 41) else if crcOf 0#32 b ≠ 0#32 then (.zero, 42)
  else
    let u := unitOf b
    let e := if u.lawful ≠ 43 ∧ u.lawful ≠ 44 ∧ (b.getD 14 0).toNat ≠ u.data.length then 45 else u.lawful
    if e ≠ 0 then (.zero, e) else (u, 0)

/-- A parameter set. -/
structure ParM where
  code : Int
  out : Int
  inn : Int
  watch : Int
  count : Int
  deriving DecidableEq
def ParM.lawful (p : ParM) : Bool := decide (p.code ≠ 0 ∧ 1 ≤ p.out ∧ p.out ≤ 8 ∧ 1 ≤ p.inn ∧ p.inn ≤ 8 ∧ 1 ≤ p.watch ∧ p.watch ≤ 1048576 ∧ 2 ≤ p.count)
def ParM.bytes (p : ParM) : List UInt8 := wordBytes p.code ++ [byteOf p.out, byteOf p.inn] ++ wordBytes p.watch ++ wordBytes p.count
def ParM.sign (p : ParM) : List UInt8 := wordOf (crcOf 0#32 p.bytes)

/-- A dog and a valve: what a reset takes away at either end. -/
structure ValveM where
  running : Bool := false
  held : Bool := false
  fresh : Bool := false
  latched : Int := 0
  value : Option (List UInt8) := none
  deriving DecidableEq
namespace ValveM
def trip (v : ValveM) (code : Int) : ValveM × Bool :=
  if code = 0 then (v, false) else
  ({ v with value := none, fresh := false, latched := if v.latched = 0 then code else v.latched }, v.latched == 0)
def run (v : ValveM) (on : Bool) : ValveM := if v.running = on then v else { v with running := on, held := false, value := none }
def hold (v : ValveM) (on : Bool) : ValveM := { v with held := on && v.running }
def come (v : ValveM) : ValveM := { v with fresh := v.latched != 0 }
def take (v : ValveM) (b : List UInt8) : ValveM := if v.running && v.latched == 0 then { v with value := some b } else v
def request (v : ValveM) : Bool := v.running && v.fresh && v.latched != 0
def ack (v : ValveM) : ValveM := if v.request then { v with latched := 0, fresh := false } else v
def on (v : ValveM) : Bool := v.running && !v.held && v.value.isSome
def output (v : ValveM) (n : Int) : List UInt8 := if v.on then v.value.getD [] else List.replicate n.toNat 0
end ValveM
/-- Ticks: the dog's count, and whether it fell. -/
def ticksM (limit since n : Int) : Int × Bool :=
  if limit ≤ since then (since, false) else if limit - since ≤ n then (limit, true) else (since + n, false)
def flagsM (v : ValveM) (hold : Bool) : Int := (if v.on then 0 else 1) + (if v.request then 2 else 0) + (if v.latched = 0 then 0 else 4) + (if hold then 8 else 0)
/-- Noted. -/
def noteM (l : List Rec) (code s k : Int) : List Rec := l ++ [⟨l.length + 1, code, s, k⟩]

/-- What one sees of an end. -/
structure EndM where
  state : Int
  session : Int
  number : Int
  sent : Int
  since : Int
  latched : Int
  request : Bool
  on : Bool
  out : List UInt8
  deriving DecidableEq

/-- A host. -/
structure HostM where
  p : ParM
  log : List Rec := []
  since : Int := 0
  valve : ValveM := {}
  state : Int := 1
  session : Int := 0
  number : Int := 0
  sent : Int := 0
  waits : Bool := false
  missed : Int := 0
  value : List UInt8
  hold : Bool := false
namespace HostM
def new (p : ParM) : HostM := { p, value := List.replicate p.out.toNat 0 }
def reset (h : HostM) : HostM := { p := h.p, log := h.log, value := List.replicate h.p.out.toNat 0 }
def trip (h : HostM) (code : Int) : HostM :=
  let r := h.valve.trip code
  { h with valve := r.1, log := if r.2 then noteM h.log code h.session h.number else h.log }
def alive (h : HostM) : HostM := { h with waits := false, missed := 0, since := 0, valve := h.valve.come }
def run (h : HostM) (on : Bool) : HostM := { h with valve := h.valve.run on }
def leave (h : HostM) : HostM := { h with valve := h.valve.run false, state := 1, number := 0, sent := 0, waits := false, missed := 0 }
def lost (h : HostM) : HostM :=
  if h.state = 1 ∨ h.waits = false then h else
  let g := { h with missed := h.missed + 1 }
  if g.missed < 4 then g else (if g.state = 4 then g.trip 131 else g).leave
def frame (h : HostM) (kind session number flags : Int) (data : List UInt8) : List UInt8 := (UnitM.mk kind h.p.code session number flags data).encode
def compose (h : HostM) : HostM × List UInt8 :=
  if h.state = 1 then (h, h.frame 1 0 0 0 h.p.sign) else if h.state = 2 then (h, h.frame 2 h.session 0 0 h.p.sign) else if h.state = 3 then (h, h.frame 3 h.session 0 0 [])
  else
    let g := { h with sent := h.sent + 1 }
    if g.sent = g.p.count then
      let k := { (g.trip 80).run false with state := 5 }
      (k, k.frame 5 k.session k.sent 0 [])
    else (g, g.frame 4 g.session g.sent (flagsM g.valve g.hold) g.value)
def send (h : HostM) : HostM × List UInt8 × Int :=
  if h.state = 5 then (h, [], 132) else
  let c := h.lost.compose
  ({ c.1 with waits := true }, c.2, 0)
def take (h : HostM) (u : UnitM) : HostM × Int :=
  if h.state = 1 then
    if u.kind ≠ 17 ∨ u.session ≤ h.session then (h, 130)
    else if u.data ≠ h.p.sign then (h, 91)
    else (({ h with session := u.session, state := 2 } : HostM).alive, 0)
  else if u.session ≠ h.session ∨ h.state = 5 then (h, 130)
  else if h.state = 2 ∧ u.kind = 18 then (({ h with state := 3 } : HostM).alive, 0)
  else if h.state = 3 ∧ u.kind = 19 then (({ h with state := 4 } : HostM).run true |>.alive, 0)
  else if h.state = 4 ∧ u.kind = 20 ∧ h.number < u.number ∧ u.number < h.p.count ∧ (u.data.length : Int) = h.p.inn then
    let g := ({ h with number := u.number } : HostM).alive
    ({ g with valve := (g.valve.hold (decide (8 ≤ u.flags))).take u.data }, 0)
  else if h.state = 4 ∧ u.kind = 21 ∧ h.number < u.number ∧ u.number = h.p.count then
    let g := ({ h with number := u.number } : HostM).alive
    ({ (g.trip 80).run false with state := 5 }, 0)
  else (h, 130)
def read (h : HostM) (b : List UInt8) : HostM × Int :=
  let d := decodeM b
  if d.2 ≠ 0 then (h, d.2) else if !isDev d.1.kind then (h, 43) else if d.1.code ≠ h.p.code then (h, 44) else h.take d.1
def receive (h : HostM) (b : List UInt8) : HostM × Int :=
  let r := h.read b
  if r.2 = 0 then r else ({ r.1 with log := noteM r.1.log r.2 r.1.session r.1.number }, r.2)
def write (h : HostM) (b : List UInt8) (hold : Bool) : HostM × Int :=
  if (b.length : Int) ≠ h.p.out then (h, 45) else ({ h with value := b, hold := hold }, 0)
def tick (h : HostM) (n : Int) : HostM × Int :=
  if n < 0 then (h, 2) else
  let r := ticksM h.p.watch h.since n
  let g := { h with since := r.1 }
  (if r.2 then g.trip 100 else g, 0)
def ack (h : HostM) : HostM × Int := if h.valve.request then ({ h with valve := h.valve.ack }, 0) else (h, 110)
def see (h : HostM) : EndM := ⟨h.state, h.session, h.number, h.sent, h.since, h.valve.latched, h.valve.request, h.valve.on, h.valve.output h.p.inn⟩
end HostM
end Go.Proofs.YtlldgfejcjnpkaaGreat
/- The statements' calls, a burst: plain. -/
namespace Go.Proofs.YtlldgfejcjnpkaaGreat
open Go.RowKit
set_option maxHeartbeats 4000000
set_option maxRecDepth 100000

/-- One call. -/
structure OpM where
  kind : Int
  n : Int
  flags : Int
  odd : Bool
  data : List UInt8
  at_ : Int
  word : Int
/-- An op as a value. -/
def opVal (o : OpM) (x : Value) : Value := .agg #[.int .i64 o.kind, .int .i64 o.n, .int .i64 o.flags, .bool o.odd, x, .int .i64 o.at_, .int .u32 o.word]
structure OpM.Ok (o : OpM) : Prop where
  at_ : -9223372036854775808 ≤ o.at_ ∧ o.at_ < 9223372036854775808
  word : 0 ≤ o.word ∧ o.word < 4294967296
  n : -9223372036854775808 ≤ o.n ∧ o.n < 9223372036854775808
/-- A bit of a word. -/
def wbit (word : Int) (i : Nat) : Bool := word / 2 ^ i % 2 != 0
/-- How many bits a word has, of its first k. -/
def sizeTo (word : Int) : Nat → Nat
  | 0 => 0
  | k + 1 => if wbit word k then k + 1 else sizeTo word k
/-- A bit of a list turned. -/
def turnBit (b : List UInt8) (k : Nat) : List UInt8 := b.set (k / 8) ((b.getD (k / 8) 0) ^^^ (128 >>> UInt8.ofNat (k % 8)))
/-- The first k bits of a burst turned. -/
def turnTo (word : Int) (size frm : Nat) (b : List UInt8) : Nat → List UInt8
  | 0 => b
  | k + 1 => if wbit word (size - 1 - k) then turnBit (turnTo word size frm b k) (frm + k) else turnTo word size frm b k
/-- Bytes with a burst turned in them. -/
def burstM (b : List UInt8) (at_ word : Int) : Option (List UInt8) :=
  let size := sizeTo word 32
  if size = 0 ∨ 8 * b.length < size then none
  else
    let room := 8 * b.length - size + 1
    some (turnTo word size ((at_ % 18446744073709551616).toNat % room) b size)
def addU (a b : Int) : Int := (a + b) % 4294967296
end Go.Proofs.YtlldgfejcjnpkaaGreat
/- A memory, a cell, a device: plain (by the document's definition). -/
namespace Go.Proofs.YtlldgfejcjnpkaaGreat

/-- Bytes that outlive the power. -/
structure MemM where
  b : List UInt8
  off : Bool := false
  armed : Bool := false
  left : Int := 0
  writes : Int := 0
namespace MemM
def write (m : MemM) (at_ : Nat) (c : UInt8) : MemM × Int :=
  if m.off then (m, 70) else if m.b.length ≤ at_ then (m, 2) else if m.armed && m.left == 0 then ({ m with off := true }, 70)
  else ({ m with left := if m.armed then m.left - 1 else m.left, b := m.b.set at_ c, writes := m.writes + 1 }, 0)
def arm (m : MemM) (n : Int) : MemM × Int := if n < 0 then (m, 2) else ({ m with armed := true, left := n }, 0)
def on (m : MemM) : MemM := { m with off := false, armed := false }
/-- Does slot k hold a word, and which? -/
def holds (m : MemM) (k : Nat) : Bool := m.b.getD (5 * k) 0 == 0xa5
def word (m : MemM) (k : Nat) : Int := numAt m.b (5 * k + 1)
/-- Writes, one behind the other, until one is refused. -/
def writeAll (m : MemM) : List (Nat × UInt8) → MemM × Int
  | [] => (m, 0)
  | x :: l => if (m.write x.1 x.2).2 ≠ 0 then m.write x.1 x.2 else (m.write x.1 x.2).1.writeAll l
def slotBytes (k : Nat) (w : Int) : List (Nat × UInt8) :=
  [(5 * k, 0), (5 * k + 1, byteOf (w / 16777216)), (5 * k + 2, byteOf (w / 65536)), (5 * k + 3, byteOf (w / 256)), (5 * k + 4, byteOf w), (5 * k, 0xa5)]
def writeSlot (m : MemM) (k : Nat) (w : Int) : MemM × Int := m.writeAll (slotBytes k w)
def top (m : MemM) : Int :=
  let v := if m.holds 0 && decide (0 < m.word 0) then m.word 0 else 0
  if m.holds 1 && decide (v < m.word 1) then m.word 1 else v
/-- Slot k put right by the other one. -/
def mend (m : MemM) (k : Nat) : MemM × Int :=
  if !m.holds k && m.holds (1 - k) then m.writeSlot k (m.word (1 - k)) else if !m.holds k && m.b.getD (5 * k) 0 != 0 then m.write (5 * k) 0 else (m, 0)
end MemM
/-- A cell over a memory. -/
structure CellM where
  max : Int
  value : Int
  dead : Bool := false
/-- A cell is opened: the memory put right. -/
def openM (m : MemM) (max : Int) : MemM × Option CellM × Int :=
  if max = 0 ∨ m.b.length < 10 then (m, none, 2) else if m.off then (m, none, 70)
  else
    let v := m.top
    let a := m.mend 0
    if a.2 ≠ 0 then (a.1, none, a.2) else
    let c := a.1.mend 1
    if c.2 ≠ 0 then (c.1, none, c.2) else (c.1, some ⟨max, v, false⟩, 0)
def CellM.next (c : CellM) (m : MemM) : CellM × MemM × Int × Int :=
  if c.dead || m.off then (c, m, 0, 70) else if c.max ≤ c.value then (c, m, 0, 80)
  else
    let k := if m.holds 0 && (!m.holds 1 || decide (m.word 1 < m.word 0)) then 1 else 0
    let r := m.writeSlot k (c.value + 1)
    if r.2 ≠ 0 then ({ c with dead := true }, r.1, 0, 70) else ({ c with value := c.value + 1 }, r.1, c.value + 1, 0)

/-- A device. -/
structure DevM where
  p : ParM
  m : MemM
  max : Int
  cell : CellM
  log : List Rec := []
  since : Int := 0
  valve : ValveM := {}
  state : Int := 1
  session : Int := 0
  number : Int := 0
  sent : Int := 0
  odd : Int := 0
  value : List UInt8
  hold : Bool := false
namespace DevM
def life (d : DevM) (state : Int) : DevM := { p := d.p, m := d.m, max := d.max, cell := d.cell, log := d.log, state, value := List.replicate d.p.inn.toNat 0 }
def new (p : ParM) (m : MemM) (max : Int) : MemM × Option DevM × Int :=
  if !p.lawful then (m, none, 90) else
  match openM m max with
  | (m', some c, _) => (m', some { p, m := m', max, cell := c, value := List.replicate p.inn.toNat 0 }, 0)
  | (m', none, e) => (m', none, e)
def reset (d : DevM) (n : Int) : DevM × Int :=
  if n < 0 then (d, 2) else
  let m := if 0 < n then (d.m.on.arm (n - 1)).1 else d.m.on
  match openM m d.max with
  | (m', some c, _) => ({ (d.life 1) with m := m', cell := c }, 0)
  | (m', none, e) => ({ (d.life 6) with m := m' }, e)
def trip (d : DevM) (code : Int) : DevM :=
  let r := d.valve.trip code
  { d with valve := r.1, log := if r.2 then noteM d.log code d.session d.number else d.log }
def alive (d : DevM) : DevM := { d with odd := 0, since := 0, valve := d.valve.come }
def run (d : DevM) (on : Bool) : DevM := { d with valve := d.valve.run on }
def leave (d : DevM) (state : Int) : DevM := { d with valve := d.valve.run false, state, session := 0, number := 0, sent := 0, odd := 0 }
def frame (d : DevM) (kind number flags : Int) (data : List UInt8) : List UInt8 := (UnitM.mk kind d.p.code d.session number flags data).encode
def none (d : DevM) : List UInt8 := d.frame 22 0 0 []
def offer (d : DevM) : List UInt8 := d.frame 17 0 0 d.p.sign
def busy (d : DevM) : Bool := decide (d.state = 2 ∨ d.state = 3 ∨ d.state = 4)
/-- One more odd unit; was the session given up by it? -/
def strange (d : DevM) : DevM × Bool :=
  if !d.busy then (d, false) else
  let g := { d with odd := d.odd + 1 }
  if g.odd < 4 then (g, false) else ((if g.state = 4 then g.trip 131 else g).leave 1, true)
def odds (d : DevM) (e : Int) : DevM × List UInt8 × Int := (d.strange.1, d.strange.1.none, e)
def begin_ (d : DevM) : DevM × List UInt8 × Int :=
  match d.cell.next d.m with
  | (c, m, s, e) =>
    let g := { d with cell := c, m := m }
    if e = 80 then let k := (g.trip 80).leave 5; (k, k.none, 80)
    else if e ≠ 0 then (g.life 6, [], 70)
    else let k := { g.leave 2 with session := s }; (k, k.offer, 0)
/-- The host wants a session. -/
def wish (d : DevM) : DevM × List UInt8 × Int :=
  if d.busy then
    let r := d.strange
    if r.2 then r.1.begin_ else if r.1.state = 2 then (r.1, r.1.offer, 130) else (r.1, r.1.none, 130)
  else d.begin_
def take (d : DevM) (u : UnitM) : DevM × List UInt8 × Int :=
  if u.kind = 1 then (if u.data = d.p.sign then d.wish else d.odds 91)
  else if u.kind = 2 ∧ u.session = d.session ∧ (d.state = 2 ∨ d.state = 3) then
    if u.data ≠ d.p.sign then d.odds 91 else
    let g := if d.state = 2 then ({ d with state := 3 } : DevM).alive else d
    (g, g.frame 18 0 0 [], 0)
  else if u.kind = 3 ∧ u.session = d.session ∧ (d.state = 3 ∨ d.state = 4 ∧ d.number = 0) then
    let g := if d.state = 3 then (({ d with state := 4 } : DevM).run true).alive else d
    (g, g.frame 19 0 0 [], 0)
  else if u.kind = 4 ∧ d.state = 4 ∧ u.session = d.session ∧ d.number < u.number ∧ (u.data.length : Int) = d.p.out ∧ u.number < d.p.count then
    let g := ({ d with number := u.number } : DevM).alive
    let k := { g with valve := (g.valve.hold (decide (8 ≤ u.flags))).take u.data, sent := g.sent + 1 }
    (k, k.frame 20 k.sent (flagsM k.valve k.hold) k.value, 0)
  else if u.kind = 5 ∧ d.state = 4 ∧ u.session = d.session ∧ d.number < u.number ∧ u.number = d.p.count then
    let g := { (({ d with number := u.number } : DevM).alive).trip 80 with sent := d.p.count }
    ({ g.run false with state := 5 }, g.frame 21 g.sent 0 [], 0)
  else d.odds 130
def read (d : DevM) (b : List UInt8) : DevM × List UInt8 × Int :=
  let u := decodeM b
  if u.2 ≠ 0 then (d, [], u.2) else if !isHost u.1.kind then (d, [], 43) else if u.1.code ≠ d.p.code then (d, [], 44) else d.take u.1
def receive (d : DevM) (b : List UInt8) : DevM × List UInt8 × Int :=
  if d.state = 6 then (d, [], 70) else
  let r := d.read b
  if r.2.2 = 0 ∨ r.2.2 = 70 then r else ({ r.1 with log := noteM r.1.log r.2.2 r.1.session r.1.number }, r.2.1, r.2.2)
def write (d : DevM) (b : List UInt8) (hold : Bool) : DevM × Int :=
  if d.state = 6 then (d, 70) else if (b.length : Int) ≠ d.p.inn then (d, 45) else ({ d with value := b, hold := hold }, 0)
def tick (d : DevM) (n : Int) : DevM × Int :=
  if d.state = 6 then (d, 70) else if n < 0 then (d, 2) else
  let r := ticksM d.p.watch d.since n
  let g := { d with since := r.1 }
  (if r.2 then g.trip 100 else g, 0)
def ack (d : DevM) : DevM × Int := if d.state = 6 then (d, 70) else if d.valve.request then ({ d with valve := d.valve.ack }, 0) else (d, 110)
def see (d : DevM) : EndM := ⟨d.state, d.session, d.number, d.sent, d.since, d.valve.latched, d.valve.request, d.valve.on, d.valve.output d.p.out⟩
end DevM
end Go.Proofs.YtlldgfejcjnpkaaGreat
/- A memory's words outlive the power: whatever write is refused, the greatest word stands. Plain. -/
namespace Go.Proofs.YtlldgfejcjnpkaaGreat

theorem getD_set8 (b : List UInt8) (a i : Nat) (c : UInt8) : (b.set a c).getD i 0 = if a = i ∧ i < b.length then c else b.getD i 0 := by
  simp only [List.getD_eq_getElem?_getD, List.getElem?_set]
  by_cases h : a = i
  · subst h
    by_cases hl : a < b.length
    · simp [hl]
    · simp [hl]
  · simp [h]
theorem byteOf_of (w : Int) (j : Nat) (x : BitVec 8) (h : x.toNat = (w % 4294967296).toNat / 2 ^ j % 256) (hj : j = 0 ∨ j = 8 ∨ j = 16 ∨ j = 24) : byteOf (w / (2 ^ j : Nat)) = ⟨x⟩ := by
  unfold byteOf
  congr 1
  apply BitVec.eq_of_toNat_eq
  rw [h, BitVec.toNat_ofInt]
  rcases hj with rfl | rfl | rfl | rfl <;> simp <;> omega
theorem ofWord_parts (w : Int) (h0 : 0 ≤ w) (h1 : w < 4294967296) : ((ofWord (byteOf (w / 16777216)) (byteOf (w / 65536)) (byteOf (w / 256)) (byteOf w)).toNat : Int) = w := by
  have e3 := byteOf_of w 24 ((BitVec.ofInt 32 w >>> 24).setWidth 8) (by simp [BitVec.toNat_ofInt, Nat.shiftRight_eq_div_pow]) (by omega)
  have e2 := byteOf_of w 16 ((BitVec.ofInt 32 w >>> 16).setWidth 8) (by simp [BitVec.toNat_ofInt, Nat.shiftRight_eq_div_pow]) (by omega)
  have e1 := byteOf_of w 8 ((BitVec.ofInt 32 w >>> 8).setWidth 8) (by simp [BitVec.toNat_ofInt, Nat.shiftRight_eq_div_pow]) (by omega)
  have e0 := byteOf_of w 0 ((BitVec.ofInt 32 w).setWidth 8) (by simp [BitVec.toNat_ofInt]) (by omega)
  simp only [Nat.reducePow, Int.cast_ofNat_Int, Int.ediv_one] at e0 e1 e2 e3
  rw [e0, e1, e2, e3, ofWord_wordOf, BitVec.toNat_ofInt]
  omega
namespace MemM
/-- Some of the writes, the first ones. -/
def put (b : List UInt8) (l : List (Nat × UInt8)) : List UInt8 := l.foldl (fun b x => b.set x.1 x.2) b
theorem put_length (l : List (Nat × UInt8)) : ∀ b : List UInt8, (put b l).length = b.length := by
  induction l with
  | nil => intro b; rfl
  | cons x r ih => intro b; exact (ih _).trans List.length_set
/-- Writes lay a beginning of what they are to lay; all of it where none is refused. -/
theorem writeAll_spec (l : List (Nat × UInt8)) : ∀ m : MemM, m.off = false → (∀ x ∈ l, x.1 < m.b.length) →
    ∃ j, (m.writeAll l).1.b = put m.b (l.take j) ∧ ((m.writeAll l).2 = 0 ∧ j = l.length ∧ (m.writeAll l).1.off = false ∧ (m.writeAll l).1.armed = m.armed ∨ (m.writeAll l).2 = 70 ∧ j < l.length ∧ m.armed = true) := by
  induction l with
  | nil => intro m ho _; exact ⟨0, rfl, .inl ⟨rfl, rfl, ho, rfl⟩⟩
  | cons x r ih =>
    intro m ho hl
    have hx : ¬ m.b.length ≤ x.1 := by have := hl x List.mem_cons_self; omega
    by_cases ha : (m.armed && m.left == 0) = true
    · have hw : m.write x.1 x.2 = ({ m with off := true }, 70) := by unfold write; rw [ho, if_neg (by simp), if_neg hx, if_pos ha]
      refine ⟨0, ?_, .inr ⟨?_, by simp, ?_⟩⟩
      · unfold writeAll; rw [hw, if_pos (by simp)]; rfl
      · unfold writeAll; rw [hw, if_pos (by simp)]
      · cases hm : m.armed <;> simp_all
    · have hw : m.write x.1 x.2 = ({ m with left := if m.armed then m.left - 1 else m.left, b := m.b.set x.1 x.2, writes := m.writes + 1 }, 0) := by
        unfold write; rw [ho, if_neg (by simp), if_neg hx, if_neg ha]
      obtain ⟨j, hb, hc⟩ := ih { m with left := if m.armed then m.left - 1 else m.left, b := m.b.set x.1 x.2, writes := m.writes + 1 } ho (fun y hy => by simpa using hl y (List.mem_cons_of_mem _ hy))
      have he : m.writeAll (x :: r) = writeAll { m with left := if m.armed then m.left - 1 else m.left, b := m.b.set x.1 x.2, writes := m.writes + 1 } r := by
        rw [writeAll, hw, if_neg (by simp)]
      rw [he]
      refine ⟨j + 1, ?_, ?_⟩
      · rw [hb]; rfl
      · rcases hc with ⟨c1, c2, c3, c4⟩ | ⟨c1, c2, c3⟩
        · exact .inl ⟨c1, by simp [c2], c3, c4⟩
        · exact .inr ⟨c1, by simp; omega, c3⟩
theorem put_far (l : List (Nat × UInt8)) (i : Nat) : ∀ b : List UInt8, (∀ x ∈ l, x.1 ≠ i) → (put b l).getD i 0 = b.getD i 0 := by
  induction l with
  | nil => intro b _; rfl
  | cons x r ih =>
    intro b h
    refine (ih (b.set x.1 x.2) fun y hy => h y (List.mem_cons_of_mem _ hy)).trans ?_
    rw [getD_set8, if_neg]
    exact fun c => h x List.mem_cons_self c.1
theorem put_at (b : List UInt8) (pre post : List (Nat × UInt8)) (x : Nat × UInt8) (i : Nat) (c : UInt8) (hx : x = (i, c)) (hi : i < b.length) (h : ∀ y ∈ post, y.1 ≠ i) : (put b (pre ++ x :: post)).getD i 0 = c := by
  subst hx
  have e : put b (pre ++ (i, c) :: post) = put ((put b pre).set i c) post := by unfold put; rw [List.foldl_append]; rfl
  rw [e, put_far post i _ h, getD_set8, if_pos ⟨rfl, by rw [put_length]; exact hi⟩]
theorem slotBytes_at (k : Nat) (w : Int) : ∀ x ∈ slotBytes k w, 5 * k ≤ x.1 ∧ x.1 < 5 * k + 5 := by
  unfold slotBytes
  simp
/-- What a slot holds behind some of its writes. -/
theorem slot_far (b : List UInt8) (k : Nat) (w : Int) (j i : Nat) (hi : i < 5 * k ∨ 5 * k + 5 ≤ i) : (put b ((slotBytes k w).take j)).getD i 0 = b.getD i 0 := by
  refine put_far _ _ _ fun x hx => ?_
  have := slotBytes_at k w x (List.mem_of_mem_take hx)
  omega
theorem slot_half (b : List UInt8) (k : Nat) (w : Int) (j : Nat) (h1 : 1 ≤ j) (h6 : j < 6) (hb : 5 * k < b.length) : (put b ((slotBytes k w).take j)).getD (5 * k) 0 = 0 := by
  have e : (slotBytes k w).take j = [] ++ (5 * k, 0) :: ([(5 * k + 1, byteOf (w / 16777216)), (5 * k + 2, byteOf (w / 65536)), (5 * k + 3, byteOf (w / 256)), (5 * k + 4, byteOf w)].take (j - 1)) := by
    have hcase : j = 1 ∨ j = 2 ∨ j = 3 ∨ j = 4 ∨ j = 5 := by omega
    rcases hcase with rfl | rfl | rfl | rfl | rfl <;> rfl
  rw [e]
  refine put_at b [] _ (5 * k, 0) (5 * k) 0 rfl hb fun y hy => ?_
  have := List.mem_of_mem_take hy
  simp at this
  rcases this with rfl | rfl | rfl | rfl <;> simp
theorem slot_whole (b : List UInt8) (k : Nat) (w : Int) (h0 : 0 ≤ w) (h1 : w < 4294967296) (hb : 5 * k + 5 ≤ b.length) :
    (put b (slotBytes k w)).getD (5 * k) 0 = 0xa5 ∧ numAt (put b (slotBytes k w)) (5 * k + 1) = w := by
  refine ⟨put_at b [(5 * k, 0), (5 * k + 1, byteOf (w / 16777216)), (5 * k + 2, byteOf (w / 65536)), (5 * k + 3, byteOf (w / 256)), (5 * k + 4, byteOf w)] [] _ (5 * k) 0xa5 rfl (by omega) (by simp), ?_⟩
  unfold numAt
  have e1 : (put b (slotBytes k w)).getD (5 * k + 1) 0 = byteOf (w / 16777216) := put_at b [(5 * k, 0)] [(5 * k + 2, byteOf (w / 65536)), (5 * k + 3, byteOf (w / 256)), (5 * k + 4, byteOf w), (5 * k, 0xa5)] _ _ _ rfl (by omega) (by simp)
  have e2 : (put b (slotBytes k w)).getD (5 * k + 1 + 1) 0 = byteOf (w / 65536) := put_at b [(5 * k, 0), (5 * k + 1, byteOf (w / 16777216))] [(5 * k + 3, byteOf (w / 256)), (5 * k + 4, byteOf w), (5 * k, 0xa5)] _ _ _ rfl (by omega) (by simp <;> omega)
  have e3 : (put b (slotBytes k w)).getD (5 * k + 1 + 2) 0 = byteOf (w / 256) := put_at b [(5 * k, 0), (5 * k + 1, byteOf (w / 16777216)), (5 * k + 2, byteOf (w / 65536))] [(5 * k + 4, byteOf w), (5 * k, 0xa5)] _ _ _ rfl (by omega) (by simp <;> omega)
  have e4 : (put b (slotBytes k w)).getD (5 * k + 1 + 3) 0 = byteOf w := put_at b [(5 * k, 0), (5 * k + 1, byteOf (w / 16777216)), (5 * k + 2, byteOf (w / 65536)), (5 * k + 3, byteOf (w / 256))] [(5 * k, 0xa5)] _ _ _ rfl (by omega) (by simp <;> omega)
  rw [e1, e2, e3, e4]
  exact ofWord_parts w h0 h1
theorem word_far {b c : List UInt8} {k : Nat} (h : ∀ i, 5 * k ≤ i → i < 5 * k + 5 → c.getD i 0 = b.getD i 0) : numAt c (5 * k + 1) = numAt b (5 * k + 1) := by
  unfold numAt
  rw [h (5 * k + 1) (by omega) (by omega), h (5 * k + 1 + 1) (by omega) (by omega), h (5 * k + 1 + 2) (by omega) (by omega), h (5 * k + 1 + 3) (by omega) (by omega)]
/-- A slot is written, or the power goes meanwhile. -/
theorem writeSlot_spec (m : MemM) (k : Nat) (w : Int) (hk : k < 2) (h0 : 0 ≤ w) (h1 : w < 4294967296) (ho : m.off = false) (hb : 10 ≤ m.b.length) :
    (m.writeSlot k w).1.b.length = m.b.length ∧ (m.writeSlot k w).1.holds (1 - k) = m.holds (1 - k) ∧ (m.writeSlot k w).1.word (1 - k) = m.word (1 - k) ∧
    ((m.writeSlot k w).2 = 0 ∧ (m.writeSlot k w).1.holds k = true ∧ (m.writeSlot k w).1.word k = w ∧ (m.writeSlot k w).1.off = false ∧ (m.writeSlot k w).1.armed = m.armed ∨
      (m.writeSlot k w).2 = 70 ∧ m.armed = true ∧ ((m.writeSlot k w).1.b = m.b ∨ (m.writeSlot k w).1.holds k = false)) := by
  obtain ⟨j, hj, hc⟩ := writeAll_spec (slotBytes k w) m ho (fun x hx => by have := slotBytes_at k w x hx; omega)
  have far : ∀ i, 5 * (1 - k) ≤ i → i < 5 * (1 - k) + 5 → (m.writeSlot k w).1.b.getD i 0 = m.b.getD i 0 := fun i hi1 hi2 => by
    unfold writeSlot
    rw [hj]
    exact slot_far _ _ _ _ _ (by omega)
  refine ⟨?_, ?_, word_far far, ?_⟩
  · unfold writeSlot; rw [hj, put_length]
  · unfold holds; rw [far _ (by omega) (by omega)]
  · rcases hc with ⟨c1, c2, c3, c4⟩ | ⟨c1, c2, c3⟩
    · have e : (m.writeSlot k w).1.b = put m.b (slotBytes k w) := by
        unfold writeSlot
        rw [hj, c2, List.take_length]
      have hs := slot_whole m.b k w h0 h1 (by omega)
      refine .inl ⟨c1, ?_, ?_, c3, c4⟩
      · unfold holds; rw [e, hs.1]; rfl
      · unfold word; rw [e, hs.2]
    · refine .inr ⟨c1, c3, ?_⟩
      have h6 : j < 6 := c2
      by_cases hj0 : j = 0
      · subst hj0
        left
        unfold writeSlot
        rw [hj]
        rfl
      · right
        unfold holds writeSlot
        rw [hj, slot_half _ _ _ _ (by omega) h6 (by omega)]
        rfl
/-- The greatest word that stands is V. -/
def Sound (m : MemM) (V : Int) : Prop :=
  10 ≤ m.b.length ∧ ((V = 0 ∧ m.holds 0 = false ∧ m.holds 1 = false) ∨
    (0 < V ∧ ∃ k, k < 2 ∧ m.holds k = true ∧ m.word k = V ∧ (m.holds (1 - k) = true → m.word (1 - k) ≤ V)))
theorem Sound.top {m : MemM} {V : Int} (h : m.Sound V) : m.top = V := by
  obtain ⟨_, ⟨rfl, h0, h1⟩ | ⟨hV, k, hk, hh, hw, ho⟩⟩ := h
  · unfold MemM.top; simp [h0, h1]
  · have hcase : k = 0 ∨ k = 1 := by omega
    rcases hcase with rfl | rfl
    · unfold MemM.top
      simp only [hh, hw, Bool.true_and, decide_eq_true hV, if_true]
      cases h1 : m.holds 1
      · simp
      · have := ho h1
        have : ¬ V < m.word 1 := by show ¬ V < m.word (1 - 0); omega
        simp [this]
    · unfold MemM.top
      simp only [hh, hw, Bool.true_and]
      cases h0 : m.holds 0
      · simp [hV]
      · have hle : m.word 0 ≤ V := ho h0
        by_cases hp : 0 < m.word 0
        · simp only [Bool.true_and, decide_eq_true hp, if_true]
          by_cases he : m.word 0 < V
          · simp [he]
          · simp only [decide_eq_false he, Bool.false_eq_true, if_false]; omega
        · simp [hp, hV]
theorem Sound.same {m m' : MemM} {V : Int} (h : m.Sound V) (hb : m'.b = m.b) : m'.Sound V := by
  unfold Sound holds word at *
  rw [hb]; exact h
theorem word_range (m : MemM) (k : Nat) : 0 ≤ m.word k ∧ m.word k < 4294967296 := by
  unfold word numAt
  have := (ofWord (m.b.getD (5 * k + 1) 0) (m.b.getD (5 * k + 1 + 1) 0) (m.b.getD (5 * k + 1 + 2) 0) (m.b.getD (5 * k + 1 + 3) 0)).isLt
  omega
theorem Sound.le {m : MemM} {V : Int} (h : m.Sound V) (k : Nat) (hk : k < 2) (hh : m.holds k = true) : m.word k ≤ V := by
  obtain ⟨_, ⟨_, h0, h1⟩ | ⟨hV, j, hj, hj1, hj2, ho⟩⟩ := h
  · have hcase : k = 0 ∨ k = 1 := by omega
    rcases hcase with rfl | rfl <;> simp_all
  · by_cases e : k = j
    · subst e; omega
    · have e' : k = 1 - j := by omega
      subst e'
      exact ho hh
theorem Sound.nonneg {m : MemM} {V : Int} (h : m.Sound V) : 0 ≤ V := by
  obtain ⟨_, ⟨rfl, _⟩ | ⟨hV, _⟩⟩ := h <;> omega
/-- Where the other slot keeps V and this one holds no more, V stands. -/
theorem Sound.of_other {m m' : MemM} {V : Int} (h : m.Sound V) (k : Nat) (hk : k < 2) (hl : m'.b.length = m.b.length) (h1 : m'.holds (1 - k) = m.holds (1 - k)) (h2 : m'.word (1 - k) = m.word (1 - k))
    (hV : 0 < V → m.holds (1 - k) = true ∧ m.word (1 - k) = V) (hk' : m'.holds k = true → 0 < V ∧ m'.word k ≤ V) : m'.Sound V := by
  refine ⟨by rw [hl]; exact h.1, ?_⟩
  by_cases h0 : 0 < V
  · obtain ⟨a, b⟩ := hV h0
    refine .inr ⟨h0, 1 - k, by omega, by rw [h1]; exact a, by rw [h2]; exact b, fun hh => ?_⟩
    rw [show 1 - (1 - k) = k by omega] at hh ⊢
    exact (hk' hh).2
  · have := h.nonneg
    obtain rfl : V = 0 := by omega
    obtain ⟨_, ⟨_, g0, g1⟩ | ⟨hV', _⟩⟩ := h
    · have hn : m'.holds k = false := by
        cases hh : m'.holds k
        · rfl
        · exact absurd (hk' hh).1 (by omega)
      have ho : m'.holds (1 - k) = false := by
        rw [h1]
        have hcase : k = 0 ∨ k = 1 := by omega
        rcases hcase with rfl | rfl <;> assumption
      have hcase : k = 0 ∨ k = 1 := by omega
      rcases hcase with rfl | rfl
      · exact .inl ⟨rfl, hn, ho⟩
      · exact .inl ⟨rfl, ho, hn⟩
    · omega
theorem Sound.mend {m : MemM} {V : Int} (h : m.Sound V) (k : Nat) (hk : k < 2) (ho : m.off = false) :
    (m.mend k).1.Sound V ∧ ((m.mend k).2 = 0 ∧ (m.mend k).1.off = false ∧ (m.mend k).1.armed = m.armed ∨ (m.mend k).2 = 70 ∧ m.armed = true) := by
  have hb := h.1
  by_cases c1 : (!m.holds k && m.holds (1 - k)) = true
  · have e : m.mend k = m.writeSlot k (m.word (1 - k)) := by unfold MemM.mend; rw [if_pos c1]
    simp only [Bool.and_eq_true, Bool.not_eq_true'] at c1
    obtain ⟨w0, w1⟩ := m.word_range (1 - k)
    obtain ⟨s1, s2, s3, s4⟩ := writeSlot_spec m k (m.word (1 - k)) hk w0 w1 ho hb
    have hle := h.le (1 - k) (by omega) c1.2
    have hV : 0 < V ∧ m.word (1 - k) = V := by
      obtain ⟨_, ⟨_, g0, g1⟩ | ⟨hV, j, hj, hj1, hj2, _⟩⟩ := h
      · have hcase : k = 0 ∨ k = 1 := by omega
        rcases hcase with rfl | rfl <;> simp_all
      · refine ⟨hV, ?_⟩
        by_cases e : j = k
        · subst e; rw [c1.1] at hj1; cases hj1
        · have : j = 1 - k := by omega
          subst this; exact hj2
    rw [e]
    refine ⟨h.of_other k hk s1 s2 s3 (fun _ => ⟨c1.2, hV.2⟩) (fun hh => ⟨hV.1, ?_⟩), ?_⟩
    · rcases s4 with ⟨_, _, a3, _⟩ | ⟨_, _, a3 | a3⟩
      · rw [a3]; exact hle
      · have : (m.writeSlot k (m.word (1 - k))).1.holds k = m.holds k := by unfold holds; rw [a3]
        rw [this, c1.1] at hh; cases hh
      · rw [a3] at hh; cases hh
    · rcases s4 with ⟨a1, _, _, a4, a5⟩ | ⟨a1, a2, _⟩
      · exact .inl ⟨a1, a4, a5⟩
      · exact .inr ⟨a1, a2⟩
  · by_cases c2 : (!m.holds k && m.b.getD (5 * k) 0 != 0) = true
    · have e : m.mend k = m.write (5 * k) 0 := by unfold MemM.mend; rw [if_neg c1, if_pos c2]
      have hx : ¬ m.b.length ≤ 5 * k := by omega
      rw [e]
      by_cases ha : (m.armed && m.left == 0) = true
      · have hw : m.write (5 * k) 0 = ({ m with off := true }, 70) := by unfold write; rw [ho, if_neg (by simp), if_neg hx, if_pos ha]
        rw [hw]
        exact ⟨h.same rfl, .inr ⟨rfl, by cases hm : m.armed <;> simp_all⟩⟩
      · have hw : m.write (5 * k) 0 = ({ m with left := if m.armed then m.left - 1 else m.left, b := m.b.set (5 * k) 0, writes := m.writes + 1 }, 0) := by
          unfold write; rw [ho, if_neg (by simp), if_neg hx, if_neg ha]
        rw [hw]
        have hk0 : m.holds k = false := by simp at c2; exact c2.1
        have far : ∀ i, 5 * (1 - k) ≤ i → i < 5 * (1 - k) + 5 → (m.b.set (5 * k) 0).getD i 0 = m.b.getD i 0 := fun i h1 h2 => by
          rw [getD_set8, if_neg (by omega)]
        refine ⟨h.of_other k hk List.length_set (by unfold holds; rw [show (m.b.set (5 * k) 0).getD (5 * (1 - k)) 0 = _ from far _ (by omega) (by omega)]) (word_far far) (fun hV => ?_) (fun hh => ?_), .inl ⟨rfl, ho, rfl⟩⟩
        · obtain ⟨_, ⟨h0, _⟩ | ⟨_, j, hj, hj1, hj2, _⟩⟩ := h
          · omega
          · by_cases e : j = k
            · subst e; rw [hk0] at hj1; cases hj1
            · have : j = 1 - k := by omega
              subst this; exact ⟨hj1, hj2⟩
        · exfalso
          unfold holds at hh
          simp only [getD_set8] at hh
          split at hh <;> simp_all
    · have e : m.mend k = (m, 0) := by unfold MemM.mend; rw [if_neg c1, if_neg c2]
      rw [e]
      exact ⟨h, .inl ⟨rfl, ho, rfl⟩⟩
end MemM
theorem openM_sound {m : MemM} {V max : Int} (h : m.Sound V) (ho : m.off = false) (hm : max ≠ 0) :
    (openM m max).1.Sound V ∧ ((openM m max).2 = (some ⟨max, V, false⟩, 0) ∧ (openM m max).1.off = false ∧ (openM m max).1.armed = m.armed ∨ (openM m max).2 = (none, 70) ∧ m.armed = true) := by
  have hb := h.1
  have e0 : ¬ (max = 0 ∨ m.b.length < 10) := by omega
  have ht := h.top
  obtain ⟨a1, a2⟩ := h.mend 0 (by omega) ho
  unfold openM
  rw [if_neg e0, ho, if_neg (by simp)]
  rcases a2 with ⟨a2, a3, a4⟩ | ⟨a2, a3⟩
  · obtain ⟨b1, b2⟩ := a1.mend 1 (by omega) a3
    simp only [a2, ne_eq, not_true_eq_false, if_false]
    rcases b2 with ⟨b2, b3, b4⟩ | ⟨b2, b3⟩
    · simp only [b2, not_true_eq_false, if_false]
      exact ⟨b1, .inl ⟨by rw [ht], b3, by rw [b4, a4]⟩⟩
    · have : ¬ (70 : Int) = 0 := by omega
      simp only [b2, this, not_false_eq_true, if_true]
      exact ⟨b1, .inr ⟨trivial, by rw [← a4]; exact b3⟩⟩
  · have : ¬ (70 : Int) = 0 := by omega
    simp only [a2, ne_eq, this, not_false_eq_true, if_true]
    exact ⟨a1, .inr ⟨trivial, a3⟩⟩
theorem next_sound {m : MemM} {V max : Int} (h : m.Sound V) (ho : m.off = false) (hV : V < max) (hmax : max < 4294967296) :
    (((⟨max, V, false⟩ : CellM).next m).2.2 = (V + 1, 0) ∧ ((⟨max, V, false⟩ : CellM).next m).1 = ⟨max, V + 1, false⟩ ∧ ((⟨max, V, false⟩ : CellM).next m).2.1.Sound (V + 1) ∧ ((⟨max, V, false⟩ : CellM).next m).2.1.off = false) ∨
    (((⟨max, V, false⟩ : CellM).next m).2.2 = (0, 70) ∧ ((⟨max, V, false⟩ : CellM).next m).2.1.Sound V ∧ m.armed = true) := by
  have hb := h.1
  have hn := h.nonneg
  obtain ⟨k, hk, hke, hkV⟩ : ∃ k, k < 2 ∧ (if m.holds 0 && (!m.holds 1 || decide (m.word 1 < m.word 0)) then 1 else 0) = k ∧ (0 < V → m.holds (1 - k) = true ∧ m.word (1 - k) = V) := by
    obtain ⟨_, ⟨rfl, g0, g1⟩ | ⟨hV, j, hj, hj1, hj2, hj3⟩⟩ := h
    · exact ⟨0, by omega, by simp [g0], fun h => by omega⟩
    · have hcase : j = 0 ∨ j = 1 := by omega
      rcases hcase with rfl | rfl
      · by_cases c : (!m.holds 1 || decide (m.word 1 < m.word 0)) = true
        · exact ⟨1, by omega, by simp [hj1, c], fun _ => ⟨hj1, hj2⟩⟩
        · refine ⟨0, by omega, by rw [hj1, Bool.true_and, if_neg c], fun _ => ?_⟩
          simp at c
          have := hj3 c.1
          exact ⟨c.1, by show m.word 1 = V; have : m.word 1 ≤ V := this; omega⟩
      · refine ⟨0, by omega, ?_, fun _ => ⟨hj1, hj2⟩⟩
        rw [if_neg]
        intro c
        simp only [hj1, hj2, Bool.not_true, Bool.false_or, Bool.and_eq_true, decide_eq_true_eq] at c
        have : m.word 0 ≤ V := hj3 c.1
        omega
  obtain ⟨s1, s2, s3, s4⟩ := MemM.writeSlot_spec m k (V + 1) hk (by omega) (by omega) ho hb
  have e : (⟨max, V, false⟩ : CellM).next m = (if (m.writeSlot k (V + 1)).2 ≠ 0 then (⟨max, V, true⟩, (m.writeSlot k (V + 1)).1, 0, 70) else (⟨max, V + 1, false⟩, (m.writeSlot k (V + 1)).1, V + 1, 0)) := by
    unfold CellM.next
    simp only [ho, Bool.or_false, Bool.false_eq_true, if_false]
    rw [if_neg (by omega), hke]
  rw [e]
  rcases s4 with ⟨a1, a2, a3, a4, _⟩ | ⟨a1, a2, a3⟩
  · left
    rw [if_neg (by simp [a1])]
    refine ⟨rfl, rfl, ⟨by show 10 ≤ (m.writeSlot k (V + 1)).1.b.length; rw [s1]; exact hb, .inr ⟨by omega, k, hk, a2, a3, fun hh => ?_⟩⟩, a4⟩
    rw [s3]
    rw [s2] at hh
    have := h.le (1 - k) (by omega) hh
    omega
  · right
    rw [if_pos (by simp [a1])]
    refine ⟨rfl, ?_, a2⟩
    rcases a3 with a3 | a3
    · exact h.same a3
    · exact h.of_other k hk s1 s2 s3 hkV (fun hh => by rw [a3] at hh; cases hh)
end Go.Proofs.YtlldgfejcjnpkaaGreat
/- A cell as the program opens it and counts: plain. -/
namespace Go.Proofs.YtlldgfejcjnpkaaGreat
namespace MemM
/-- Put right as the program does: the memory, the word, the error. -/
def repair (m : MemM) : MemM × Int × Int :=
  if m.holds 0 then
    if m.holds 1 then (m, max (m.word 0) (m.word 1), 0) else ((m.writeSlot 1 (m.word 0)).1, m.word 0, (m.writeSlot 1 (m.word 0)).2)
  else if m.holds 1 then ((m.writeSlot 0 (m.word 1)).1, m.word 1, (m.writeSlot 0 (m.word 1)).2)
  else
    let a := if m.b.getD 0 0 = 0 then (m, 0) else m.write 0 0
    if a.2 ≠ 0 then (a.1, 0, a.2) else
    let c := if m.b.getD 5 0 = 0 then (a.1, 0) else a.1.write 5 0
    (c.1, 0, c.2)
theorem write_b (m : MemM) (i : Nat) (c : UInt8) : (m.write i c).1.b = m.b ∨ (m.write i c).1.b = m.b.set i c := by
  unfold write
  split
  · exact .inl rfl
  split
  · exact .inl rfl
  split
  · exact .inl rfl
  · exact .inr rfl
theorem write_far (m : MemM) (i j : Nat) (c : UInt8) (h : i ≠ j) : (m.write i c).1.b.getD j 0 = m.b.getD j 0 := by
  rcases m.write_b i c with e | e <;> rw [e]
  rw [getD_set8, if_neg (by omega)]
theorem top_both (m : MemM) (h0 : m.holds 0 = true) (h1 : m.holds 1 = true) : m.top = max (m.word 0) (m.word 1) := by
  have a := m.word_range 0
  have b := m.word_range 1
  unfold top
  simp only [h0, h1, Bool.true_and]
  by_cases c : 0 < m.word 0
  · simp only [c, decide_true, if_true]
    by_cases d : m.word 0 < m.word 1
    · simp only [d, decide_true, if_true]; omega
    · simp only [d, decide_false, Bool.false_eq_true, if_false]; omega
  · simp only [c, decide_false, Bool.false_eq_true, if_false]
    by_cases d : 0 < m.word 1
    · simp only [d, decide_true, if_true]; omega
    · simp only [d, decide_false, Bool.false_eq_true, if_false]; omega
theorem top_first (m : MemM) (h0 : m.holds 0 = true) (h1 : m.holds 1 = false) : m.top = m.word 0 := by
  have a := m.word_range 0
  unfold top
  simp only [h0, h1, Bool.true_and, Bool.false_and]
  by_cases c : 0 < m.word 0
  · simp [c]
  · simp [c]; omega
theorem top_second (m : MemM) (h0 : m.holds 0 = false) (h1 : m.holds 1 = true) : m.top = m.word 1 := by
  have a := m.word_range 1
  unfold top
  simp only [h0, h1, Bool.true_and, Bool.false_and]
  by_cases c : 0 < m.word 1
  · simp [c]
  · simp [c]; omega
theorem top_none (m : MemM) (h0 : m.holds 0 = false) (h1 : m.holds 1 = false) : m.top = 0 := by
  unfold top
  simp [h0, h1]
end MemM
theorem openM_repair (m : MemM) (mx : Int) (h : mx ≠ 0) (hb : 10 ≤ m.b.length) (ho : m.off = false) :
    openM m mx = (m.repair.1, if m.repair.2.2 = 0 then some ⟨mx, m.repair.2.1, false⟩ else none, m.repair.2.2) := by
  have e0 : ¬ (mx = 0 ∨ m.b.length < 10) := by omega
  unfold openM
  rw [if_neg e0, ho, if_neg (by simp)]
  cases h0 : m.holds 0 <;> cases h1 : m.holds 1
  · rw [m.top_none h0 h1]
    have em : m.mend 0 = if m.b.getD 0 0 = 0 then (m, 0) else m.write 0 0 := by
      unfold MemM.mend
      simp only [h0, show m.holds (1 - 0) = false from h1, Bool.not_false, Bool.and_false, Bool.false_eq_true, if_false, Bool.true_and, Nat.mul_zero]
      by_cases e : m.b.getD 0 0 = 0
      · rw [if_pos e, if_neg (by rw [e]; decide)]
      · rw [if_neg e, if_pos (by simpa using e)]
    have er : m.repair = (if (if m.b.getD 0 0 = 0 then (m, 0) else m.write 0 0).2 ≠ 0 then ((if m.b.getD 0 0 = 0 then (m, 0) else m.write 0 0).1, 0, (if m.b.getD 0 0 = 0 then (m, 0) else m.write 0 0).2) else
        ((if m.b.getD 5 0 = 0 then ((if m.b.getD 0 0 = 0 then (m, 0) else m.write 0 0).1, 0) else (if m.b.getD 0 0 = 0 then (m, 0) else m.write 0 0).1.write 5 0).1, 0, (if m.b.getD 5 0 = 0 then ((if m.b.getD 0 0 = 0 then (m, 0) else m.write 0 0).1, 0) else (if m.b.getD 0 0 = 0 then (m, 0) else m.write 0 0).1.write 5 0).2)) := by
      unfold MemM.repair
      simp only [h0, h1, Bool.false_eq_true, if_false]
    rw [er, em]
    have hA : (if m.b.getD 0 0 = 0 then (m, 0) else m.write 0 0).1.holds 0 = false ∧ (if m.b.getD 0 0 = 0 then (m, 0) else m.write 0 0).1.holds 1 = false ∧ (if m.b.getD 0 0 = 0 then (m, 0) else m.write 0 0).1.b.getD 5 0 = m.b.getD 5 0 := by
      split
      · exact ⟨h0, h1, rfl⟩
      · refine ⟨?_, ?_, m.write_far 0 5 0 (by omega)⟩
        · unfold MemM.holds
          rcases m.write_b 0 0 with e | e
          · rw [e]; exact h0
          · rw [e, getD_set8]
            split
            · rfl
            · exact h0
        · unfold MemM.holds
          rw [m.write_far 0 (5 * 1) 0 (by omega)]
          exact h1
    generalize (if m.b.getD 0 0 = 0 then (m, 0) else m.write 0 0) = a at hA ⊢
    obtain ⟨a1, a2, a3⟩ := hA
    obtain ⟨ma, ea⟩ := a
    simp only at *
    by_cases he : ea = 0
    · subst he
      have em1 : ma.mend 1 = if m.b.getD 5 0 = 0 then (ma, 0) else ma.write 5 0 := by
        unfold MemM.mend
        simp only [a2, show ma.holds (1 - 1) = false from a1, Bool.not_false, Bool.and_false, Bool.false_eq_true, if_false, Bool.true_and, Nat.mul_one]
        rw [a3]
        by_cases e : m.b.getD 5 0 = 0
        · rw [if_pos e, if_neg (by rw [e]; decide)]
        · rw [if_neg e, if_pos (by simpa using e)]
      simp only [ne_eq, not_true_eq_false, if_false, em1]
      generalize (if m.b.getD 5 0 = 0 then (ma, 0) else ma.write 5 0) = r
      obtain ⟨mr, err⟩ := r
      by_cases hr : err = 0
      · subst hr; simp
      · simp [hr]
    · simp [he]
  · rw [m.top_second h0 h1]
    have em : m.mend 0 = m.writeSlot 0 (m.word 1) := by
      unfold MemM.mend
      rw [if_pos (by rw [h0, show m.holds (1 - 0) = true from h1]; rfl)]
    have er : m.repair = ((m.writeSlot 0 (m.word 1)).1, m.word 1, (m.writeSlot 0 (m.word 1)).2) := by
      unfold MemM.repair
      simp only [h0, h1, Bool.false_eq_true, if_false, if_true]
    rw [er, em]
    have hs := m.word_range 1
    obtain ⟨_, s2, _, _⟩ := MemM.writeSlot_spec m 0 (m.word 1) (by omega) hs.1 hs.2 ho hb
    replace s2 : (m.writeSlot 0 (m.word 1)).1.holds 1 = true := s2.trans h1
    generalize m.writeSlot 0 (m.word 1) = r at *
    obtain ⟨mr, err⟩ := r
    simp only at *
    by_cases hr : err = 0
    · subst hr
      have em1 : mr.mend 1 = (mr, 0) := by
        unfold MemM.mend
        simp [s2]
      simp [em1]
    · simp [hr]
  · rw [m.top_first h0 h1]
    have em : m.mend 0 = (m, 0) := by
      unfold MemM.mend
      simp [h0]
    have em1 : m.mend 1 = m.writeSlot 1 (m.word 0) := by
      unfold MemM.mend
      rw [if_pos (by rw [h1, show m.holds (1 - 1) = true from h0]; rfl)]
    have er : m.repair = ((m.writeSlot 1 (m.word 0)).1, m.word 0, (m.writeSlot 1 (m.word 0)).2) := by
      unfold MemM.repair
      simp only [h0, h1, Bool.false_eq_true, if_false, if_true]
    rw [er, em]
    simp only [ne_eq, not_true_eq_false, if_false, em1]
    generalize m.writeSlot 1 (m.word 0) = r
    obtain ⟨mr, err⟩ := r
    by_cases hr : err = 0
    · subst hr; simp
    · simp [hr]
  · rw [m.top_both h0 h1]
    have em : ∀ k, k < 2 → m.mend k = (m, 0) := by
      intro k hk
      have hc : k = 0 ∨ k = 1 := by omega
      rcases hc with rfl | rfl <;> (unfold MemM.mend; simp [h0, h1])
    have er : m.repair = (m, max (m.word 0) (m.word 1), 0) := by
      unfold MemM.repair
      simp only [h0, h1, if_true]
    rw [er, em 0 (by omega)]
    simp [em 1 (by omega)]
end Go.Proofs.YtlldgfejcjnpkaaGreat
/- However often the power goes while a session is begun, and while a device wakes, the sessions rise: plain. -/
namespace Go.Proofs.YtlldgfejcjnpkaaGreat
namespace MemM
theorem Sound.on {m : MemM} {V : Int} (h : m.Sound V) : m.on.Sound V := h.same rfl
theorem Sound.arm {m : MemM} {V : Int} (h : m.Sound V) (n : Int) : (m.arm n).1.Sound V := by unfold MemM.arm; split <;> exact h.same rfl
theorem arm_off (m : MemM) (n : Int) : (m.arm n).1.off = m.off := by unfold arm; split <;> rfl
end MemM
namespace DevM
theorem begin_sound {d : DevM} {V : Int} (hc : d.cell = ⟨d.max, V, false⟩) (h : d.m.Sound V) (ho : d.m.off = false) (hV : V < d.max) (hmax : d.max < 4294967296) :
    d.begin_.1.p = d.p ∧ d.begin_.1.max = d.max ∧ (d.begin_.2.2 = 0 ∧ d.begin_.1.session = V + 1 ∧ d.begin_.1.m.Sound (V + 1) ∨ d.begin_.2.2 = 70 ∧ d.begin_.1.session = 0 ∧ d.begin_.1.m.Sound V) := by
  have hn := next_sound h ho hV hmax
  unfold begin_
  rw [hc]
  generalize (⟨d.max, V, false⟩ : CellM).next d.m = r at hn ⊢
  obtain ⟨c, m, s, e⟩ := r
  simp only [Prod.mk.injEq] at hn
  rcases hn with ⟨⟨rfl, rfl⟩, rfl, a3, _⟩ | ⟨⟨rfl, rfl⟩, a3, _⟩
  · exact ⟨rfl, rfl, .inl ⟨rfl, rfl, a3⟩⟩
  · exact ⟨rfl, rfl, .inr ⟨rfl, rfl, a3⟩⟩
theorem wish_sound {d : DevM} {V : Int} (hs : d.state = 1) (hc : d.cell = ⟨d.max, V, false⟩) (h : d.m.Sound V) (ho : d.m.off = false) (hV : V < d.max) (hmax : d.max < 4294967296) :
    d.wish.1.p = d.p ∧ d.wish.1.max = d.max ∧ (d.wish.2.2 = 0 ∧ d.wish.1.session = V + 1 ∧ d.wish.1.m.Sound (V + 1) ∨ d.wish.2.2 = 70 ∧ d.wish.1.session = 0 ∧ d.wish.1.m.Sound V) := by
  have hb : d.busy = false := by unfold busy; simp [hs]
  have e : d.wish = d.begin_ := by unfold wish; rw [hb]; rfl
  rw [e]
  exact begin_sound hc h ho hV hmax
/-- A device that wakes: what stands in its memory stands. -/
theorem reset_sound {d : DevM} {V : Int} (n : Int) (hn : 0 ≤ n) (h : d.m.Sound V) (hm : d.max ≠ 0) :
    (d.reset n).1.m.Sound V ∧ (d.reset n).1.p = d.p ∧ (d.reset n).1.max = d.max ∧
    (n = 0 → (d.reset n).2 = 0 ∧ (d.reset n).1.state = 1 ∧ (d.reset n).1.session = 0 ∧ (d.reset n).1.cell = ⟨d.max, V, false⟩ ∧ (d.reset n).1.m.off = false ∧ (d.reset n).1.m.armed = false) := by
  have hS : (if 0 < n then (d.m.on.arm (n - 1)).1 else d.m.on).Sound V := by split <;> first | exact h.on.arm _ | exact h.on
  have hO : (if 0 < n then (d.m.on.arm (n - 1)).1 else d.m.on).off = false := by split <;> first | exact MemM.arm_off _ _ | rfl
  have hA : n = 0 → (if 0 < n then (d.m.on.arm (n - 1)).1 else d.m.on).armed = false := by intro e; rw [if_neg (by omega)]; rfl
  obtain ⟨a1, a2⟩ := openM_sound hS hO hm
  unfold reset
  rw [if_neg (by omega)]
  simp only
  generalize openM (if 0 < n then (d.m.on.arm (n - 1)).1 else d.m.on) d.max = r at a1 a2 ⊢
  obtain ⟨m', c, e⟩ := r
  rcases a2 with ⟨a2, a3, a4⟩ | ⟨a2, a3⟩
  · obtain ⟨rfl, rfl⟩ := Prod.mk.inj a2
    exact ⟨a1, rfl, rfl, fun h0 => ⟨rfl, rfl, rfl, rfl, a3, by rw [← hA h0]; exact a4⟩⟩
  · obtain ⟨rfl, rfl⟩ := Prod.mk.inj a2
    exact ⟨a1, rfl, rfl, fun h0 => by rw [hA h0] at a3; cases a3⟩
/-- Between two rounds: idle, with V the last session that was ever begun. -/
structure Rest (d : DevM) (V : Int) : Prop where
  state : d.state = 1
  cell : d.cell = ⟨d.max, V, false⟩
  mem : d.m.Sound V
  off : d.m.off = false
/-- A round: perhaps armed, a session wished for, then awake again (perhaps cut there too), then awake for good. -/
def round (d : DevM) (cut n : Int) : DevM × Int × Int :=
  let g := if 0 ≤ cut then { d with m := (d.m.arm (cut % 9)).1 } else d
  let r := g.wish
  ((((r.1.reset n).1).reset 0).1, r.2.2, r.1.session)
theorem round_rises {d : DevM} {V : Int} (h : d.Rest V) (cut n : Int) (hn : 0 ≤ n) (hV : V < d.max) (hmax : d.max < 4294967296) :
    ∃ V', (d.round cut n).1.Rest V' ∧ (d.round cut n).1.p = d.p ∧ (d.round cut n).1.max = d.max ∧ (V' = V ∨ V' = V + 1) ∧ ((d.round cut n).2.1 = 0 → (d.round cut n).2.2 = V + 1 ∧ V' = V + 1) := by
  have h0 := h.mem.nonneg
  have hg : ∃ m, (if 0 ≤ cut then { d with m := (d.m.arm (cut % 9)).1 } else d) = { d with m := m } ∧ m.Sound V ∧ m.off = false := by
    split
    · exact ⟨_, rfl, h.mem.arm _, by rw [MemM.arm_off]; exact h.off⟩
    · exact ⟨d.m, rfl, h.mem, h.off⟩
  obtain ⟨m, hm, hS, hO⟩ := hg
  obtain ⟨w1, w2, w3⟩ := wish_sound (d := { d with m := m }) (V := V) h.state h.cell hS hO hV hmax
  unfold round
  rw [hm]
  simp only
  generalize wish { d with m := m } = r at w1 w2 w3 ⊢
  have hmx : r.1.max ≠ 0 := by rw [w2]; show d.max ≠ 0; omega
  have fin : ∀ V', r.1.m.Sound V' → Rest ((r.1.reset n).1.reset 0).1 V' ∧ ((r.1.reset n).1.reset 0).1.p = d.p ∧ ((r.1.reset n).1.reset 0).1.max = d.max := fun V' hV' => by
    obtain ⟨b1, b2, b3, _⟩ := reset_sound n hn hV' hmx
    obtain ⟨c1, c2, c3, c4⟩ := reset_sound (d := (r.1.reset n).1) 0 (by omega) b1 (by rw [b3]; exact hmx)
    obtain ⟨c4, c5, c6, c7, c8, _⟩ := c4 rfl
    exact ⟨⟨c5, by rw [c3]; exact c7, c1, c8⟩, by rw [c2, b2, w1], by rw [c3, b3, w2]⟩
  rcases w3 with ⟨e, s, hS'⟩ | ⟨e, s, hS'⟩
  · obtain ⟨f1, f2, f3⟩ := fin _ hS'
    exact ⟨V + 1, f1, f2, f3, .inr rfl, fun _ => ⟨s, rfl⟩⟩
  · obtain ⟨f1, f2, f3⟩ := fin _ hS'
    exact ⟨V, f1, f2, f3, .inl rfl, fun h => by rw [e] at h; cases h⟩
end DevM
end Go.Proofs.YtlldgfejcjnpkaaGreat
/- The statements' calls on a device: plain. -/
namespace Go.Proofs.YtlldgfejcjnpkaaGreat

/-- The signature, spoilt perhaps. -/
def signOfD (p : ParM) (odd : Bool) : List UInt8 := if odd then p.sign.set 0 ((p.sign.getD 0 0) ^^^ 1) else p.sign
/-- The unit of an op. -/
def unitOpD (d : DevM) (o : OpM) : UnitM :=
  let s := if o.odd then addU d.session 1 else d.session
  if o.kind = 1 then ⟨1, d.p.code, 0, 0, 0, signOfD d.p o.odd⟩
  else if o.kind = 2 then ⟨2, d.p.code, if o.odd ∧ o.n.tmod 2 = 0 then d.session else s, 0, 0, signOfD d.p o.odd⟩
  else if o.kind = 3 then ⟨3, d.p.code, s, 0, 0, []⟩
  else if o.kind = 5 then ⟨5, d.p.code, s, d.p.count, 0, []⟩
  else ⟨4, d.p.code, s, addU d.number o.n, o.flags, o.data⟩
/-- The frame of an op; none: it receives none. -/
def frameD (d : DevM) (o : OpM) : Option (List UInt8) :=
  if o.kind = 6 then some o.data
  else if 1 ≤ o.kind ∧ o.kind ≤ 5 then some (unitOpD d o).encode
  else if o.kind = 7 then some ((burstM (unitOpD d o).encode o.at_ o.word).getD (unitOpD d o).encode)
  else none
/-- A device behind one call. -/
def stepD (d : DevM) (o : OpM) : DevM :=
  match frameD d o with
  | some b => (d.receive b).1
  | none =>
    if o.kind = 8 then (d.tick o.n).1 else if o.kind = 9 then (d.write o.data o.odd).1 else if o.kind = 10 then d.ack.1 else if o.kind = 11 then (d.reset o.n).1
    else if o.kind = 12 then { d with m := (d.m.arm o.n).1 } else d

/-- A frame that the check refuses does nothing but note. -/
theorem spoilt_receive {d : DevM} {b : List UInt8} (h : decodeM b = (.zero, 42)) (hs : d.state ≠ 6) :
    d.receive b = ({ d with log := noteM d.log 42 d.session d.number }, [], 42) := by
  have hr : d.read b = (d, [], 42) := by
    unfold DevM.read
    simp only [h]
    rw [if_pos (by decide)]
  unfold DevM.receive
  rw [if_neg hs, hr]
  simp
theorem down_receive {d : DevM} (b : List UInt8) (hs : d.state = 6) : d.receive b = (d, [], 70) := by
  unfold DevM.receive
  rw [if_pos hs]
/-- What a device's end looks like does not hang on its records. -/
theorem see_log (d : DevM) (l : List Rec) : ({ d with log := l } : DevM).see = d.see := rfl
end Go.Proofs.YtlldgfejcjnpkaaGreat
/- The device's plain laws at the small set: a half-open session is given up at the fourth odd unit; a step that comes again changes nothing that can be seen. No program here. -/
namespace Go.Proofs.YtlldgfejcjnpkaaGreat
namespace DevM
def small : ParM := ⟨7, 2, 1, 10, 9⟩
/-- A new device over a new memory of 16 bytes. -/
def first (max : Int) : DevM := { p := small, m := ⟨List.replicate 16 0, false, false, 0, 0⟩, max, cell := ⟨max, 0, false⟩, value := [0] }
theorem new_small (max : Int) (h : max ≠ 0) : new small ⟨List.replicate 16 0, false, false, 0, 0⟩ max = (⟨List.replicate 16 0, false, false, 0, 0⟩, some (first max), 0) := by
  have hl : (!small.lawful) = false := by decide
  have ho : openM ⟨List.replicate 16 0, false, false, 0, 0⟩ max = (⟨List.replicate 16 0, false, false, 0, 0⟩, some ⟨max, 0, false⟩, 0) := by
    unfold openM
    rw [if_neg (by simp [h])]
    rfl
  unfold new
  rw [hl, ho]
  rfl
/-- The unit of an op of the kinds 1 to 4, for this device. -/
def opUnit (d : DevM) (kind : Int) (odd : Bool) (sign : List UInt8) (data : List UInt8) : UnitM :=
  let s := if odd then d.session + 1 else d.session
  if kind = 1 then ⟨1, d.p.code, 0, 0, 0, sign⟩ else if kind = 2 then ⟨2, d.p.code, s, 0, 0, sign⟩ else if kind = 3 then ⟨3, d.p.code, s, 0, 0, []⟩ else ⟨4, d.p.code, s, d.number + 1, 0, data⟩
/-- A unit is received. -/
def got (d : DevM) (u : UnitM) : DevM × List UInt8 × Int :=
  let r := d.take u
  if r.2.2 = 0 ∨ r.2.2 = 70 then r else ({ r.1 with log := noteM r.1.log r.2.2 r.1.session r.1.number }, r.2.1, r.2.2)
/-- The units of one kind each, from 1 on. -/
def ups (d : DevM) : Nat → DevM
  | 0 => d
  | k + 1 => let g := d.ups k; (g.got (g.opUnit (k + 1) false small.sign [5, 6])).1
def odds_ (d : DevM) : Nat → DevM
  | 0 => d
  | k + 1 => let g := d.odds_ k; (g.got (g.opUnit 3 true small.sign [])).1
def asks (d : DevM) : Nat → DevM
  | 0 => d
  | k + 1 => let g := d.asks k; (g.got (g.opUnit 1 false small.sign [])).1
def givesUpB (far odd : Nat) : Bool :=
  let a := (first 99).ups (far + 1)
  let b := a.odds_ odd
  let c := b.asks (4 - odd)
  decide (b.state = a.state ∧ b.session = a.session ∧ c.state = 2 ∧ c.session = a.session + 1 ∧ ((c.valve.latched = 131) ↔ (a.state = 4)))
def repeatsB (far times : Nat) : Bool :=
  let a := (first 9).ups far
  let r := a.got (a.opUnit (far + 1) false small.sign [])
  let b := r.1
  let u := b.opUnit (far + 1) false small.sign []
  let again : Nat → DevM := fun n => n.rec b fun _ g => (g.got u).1
  (List.range times).all fun i =>
    let g := again i
    let q := g.got u
    decide (q.2.1 = r.2.1 ∧ ((q.2.2 = 0) ↔ far ≠ 0) ∧ q.1.state = b.state ∧ q.1.session = b.session ∧ q.1.number = b.number ∧ q.1.sent = b.sent ∧ q.1.since = b.since ∧ q.1.valve.latched = b.valve.latched)
theorem givesUp_small : ∀ far < 4, ∀ odd < 4, givesUpB far odd = true := by decide +kernel
theorem repeats_small : ∀ far < 3, ∀ times < 4, repeatsB far times = true := by decide +kernel
end DevM
end Go.Proofs.YtlldgfejcjnpkaaGreat
/- Valves: plain. -/
namespace Go.Proofs.YtlldgfejcjnpkaaGreat
open Go.RowKit
set_option maxHeartbeats 4000000
set_option maxRecDepth 100000

theorem trip_value (v : ValveM) {c : Int} (hc : c ≠ 0) : (v.trip c).1.value = none ∧ (v.trip c).1.running = v.running := by
  unfold ValveM.trip
  rw [if_neg hc]
  exact ⟨rfl, rfl⟩
theorem off_none {v : ValveM} (h : v.value = none) : v.on = false := by simp [ValveM.on, h]
theorem off_stop {v : ValveM} (h : v.running = false) : v.on = false := by simp [ValveM.on, h]
theorem run_running (v : ValveM) (on : Bool) : (v.run on).running = on := by
  unfold ValveM.run
  split
  · assumption
  · rfl
theorem run_value (v : ValveM) (on : Bool) : (v.run on).value = v.value ∨ (v.run on).value = none := by
  unfold ValveM.run
  split
  · exact .inl rfl
  · exact .inr rfl
/-- What is on was on, with the same value. -/
def OnK (v v' : ValveM) : Prop := v'.on = true → v.on = true ∧ ∀ n, v.output n = v'.output n
theorem OnK.refl (v : ValveM) : OnK v v := fun h => ⟨h, fun _ => rfl⟩
theorem OnK.off {v v' : ValveM} (h : v'.on = false) : OnK v v' := fun h' => by rw [h] at h'; cases h'
theorem OnK.trans {v v' v'' : ValveM} (h : OnK v v') (h' : OnK v' v'') : OnK v v'' := fun h2 => ⟨(h (h' h2).1).1, fun n => ((h (h' h2).1).2 n).trans ((h' h2).2 n)⟩
theorem OnK.same {v v' : ValveM} (h1 : v'.running = v.running) (h2 : v'.held = v.held) (h3 : v'.value = v.value) : OnK v v' := by
  have e : v'.on = v.on := by simp [ValveM.on, h1, h2, h3]
  intro h
  refine ⟨e ▸ h, fun n => ?_⟩
  simp [ValveM.output, e, h3]
theorem ack_keep (v : ValveM) : OnK v v.ack := by
  unfold ValveM.ack
  split
  · exact .same rfl rfl rfl
  · exact .refl v
theorem run_latched (v : ValveM) (on : Bool) : (v.run on).latched = v.latched := by
  unfold ValveM.run
  split <;> rfl
theorem trip_latched (v : ValveM) {c : Int} (hc : c ≠ 0) : (v.trip c).1.latched ≠ 0 := by
  unfold ValveM.trip
  rw [if_neg hc]
  simp only
  split
  · exact hc
  · assumption
theorem run_false_on (v : ValveM) : (v.run false).on = false := by
  unfold ValveM.run
  split
  · rename_i h; simp [ValveM.on, h]
  · rfl
end Go.Proofs.YtlldgfejcjnpkaaGreat
