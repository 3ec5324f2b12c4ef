/- Units, sets, valves, dogs, hosts: plain. -/
import Derived.Test.YtdiogamcjihejaaGreatCrcM
import Derived.Test.YtdiogamcjihejaaGreatMeter
namespace Go.Proofs.YtdiogamcjihejaaGreat

/-- A unit. -/
structure UnitM where
  kind : Int
  code : Int
  session : Int
  number : Int
  flags : Int
  data : List UInt8
  deriving DecidableEq
def UnitM.zero : UnitM := ⟨0, 0, 0, 0, 0, []⟩
def isHost (k : Int) : Bool := decide (1 ≤ k) && decide (k ≤ 5)
def isDev (k : Int) : Bool := decide (17 ≤ k) && decide (k ≤ 22)
def dataOk (k : Int) (n : Nat) : Bool := if k = 1 ∨ k = 2 ∨ k = 17 then n == 4 else if k = 4 ∨ k = 20 then decide (1 ≤ n ∧ n ≤ 8) else n == 0
def sessOk (k s : Int) : Bool := if k = 1 then s == 0 else if k = 22 then true else s != 0
def numOk (k n : Int) : Bool := decide (k = 4 ∨ k = 20 ∨ k = 5 ∨ k = 21) == (n != 0)
def flagOk (k f : Int) : Bool := decide (0 ≤ f ∧ f ≤ 15) && (decide (k = 4 ∨ k = 20) || f == 0)
def UnitM.lawful (u : UnitM) : Int :=
  if !isHost u.kind && !isDev u.kind then 43 else if u.code == 0 then 44 else if !dataOk u.kind u.data.length then 45
  else if !sessOk u.kind u.session then 46 else if !numOk u.kind u.number then 47 else if !flagOk u.kind u.flags then 48 else 0
/-- A byte of a number. -/
def byteOf (n : Int) : UInt8 := ⟨BitVec.ofInt 8 n⟩
/-- The four bytes of a number. -/
def wordBytes (n : Int) : List UInt8 := wordOf (BitVec.ofInt 32 n)
def UnitM.body (u : UnitM) : List UInt8 := [byteOf u.kind] ++ wordBytes u.code ++ wordBytes u.session ++ wordBytes u.number ++ [byteOf u.flags, byteOf u.data.length] ++ u.data
def UnitM.encode (u : UnitM) : List UInt8 := if u.lawful = 0 then sealM u.body else []
/-- The number of four bytes at a place. -/
def numAt (b : List UInt8) (i : Nat) : Int := ((ofWord (b.getD i 0) (b.getD (i + 1) 0) (b.getD (i + 2) 0) (b.getD (i + 3) 0)).toNat : Int)
def unitOf (b : List UInt8) : UnitM := ⟨(b.getD 0 0).toNat, numAt b 1, numAt b 5, numAt b 9, (b.getD 13 0).toNat, (b.drop 15).take (b.length - 19)⟩
def decodeM (b : List UInt8) : UnitM × Int :=
  if b.length < 19 then (.zero, 40) else if b.length > 27 then (.zero, 41) else if crcOf 0#32 b ≠ 0#32 then (.zero, 42)
  else
    let u := unitOf b
    let e := if u.lawful ≠ 43 ∧ u.lawful ≠ 44 ∧ (b.getD 14 0).toNat ≠ u.data.length then 45 else u.lawful
    if e ≠ 0 then (.zero, e) else (u, 0)

/-- A parameter set. -/
structure ParM where
  code : Int
  out : Int
  inn : Int
  watch : Int
  count : Int
  deriving DecidableEq
def ParM.lawful (p : ParM) : Bool := decide (p.code ≠ 0 ∧ 1 ≤ p.out ∧ p.out ≤ 8 ∧ 1 ≤ p.inn ∧ p.inn ≤ 8 ∧ 1 ≤ p.watch ∧ p.watch ≤ 1048576 ∧ 2 ≤ p.count)
def ParM.bytes (p : ParM) : List UInt8 := wordBytes p.code ++ [byteOf p.out, byteOf p.inn] ++ wordBytes p.watch ++ wordBytes p.count
def ParM.sign (p : ParM) : List UInt8 := wordOf (crcOf 0#32 p.bytes)

/-- A dog and a valve: what a reset takes away at either end. -/
structure ValveM where
  running : Bool := false
  held : Bool := false
  fresh : Bool := false
  latched : Int := 0
  value : Option (List UInt8) := none
  deriving DecidableEq
namespace ValveM
def trip (v : ValveM) (code : Int) : ValveM × Bool :=
  if code = 0 then (v, false) else
  ({ v with value := none, fresh := false, latched := if v.latched = 0 then code else v.latched }, v.latched == 0)
def run (v : ValveM) (on : Bool) : ValveM := if v.running = on then v else { v with running := on, held := false, value := none }
def hold (v : ValveM) (on : Bool) : ValveM := { v with held := on && v.running }
def come (v : ValveM) : ValveM := { v with fresh := v.latched != 0 }
def take (v : ValveM) (b : List UInt8) : ValveM := if v.running && v.latched == 0 then { v with value := some b } else v
def request (v : ValveM) : Bool := v.running && v.fresh && v.latched != 0
def ack (v : ValveM) : ValveM := if v.request then { v with latched := 0, fresh := false } else v
def on (v : ValveM) : Bool := v.running && !v.held && v.value.isSome
def output (v : ValveM) (n : Int) : List UInt8 := if v.on then v.value.getD [] else List.replicate n.toNat 0
end ValveM
/-- Ticks: the dog's count, and whether it fell. -/
def ticksM (limit since n : Int) : Int × Bool :=
  if limit ≤ since then (since, false) else if limit - since ≤ n then (limit, true) else (since + n, false)
def flagsM (v : ValveM) (hold : Bool) : Int := (if v.on then 0 else 1) + (if v.request then 2 else 0) + (if v.latched = 0 then 0 else 4) + (if hold then 8 else 0)
/-- Noted. -/
def noteM (l : List Rec) (code s k : Int) : List Rec := l ++ [⟨l.length + 1, code, s, k⟩]

/-- What one sees of an end. -/
structure EndM where
  state : Int
  session : Int
  number : Int
  sent : Int
  since : Int
  latched : Int
  request : Bool
  on : Bool
  out : List UInt8
  deriving DecidableEq

/-- A host. -/
structure HostM where
  p : ParM
  log : List Rec := []
  since : Int := 0
  valve : ValveM := {}
  state : Int := 1
  session : Int := 0
  number : Int := 0
  sent : Int := 0
  waits : Bool := false
  missed : Int := 0
  value : List UInt8
  hold : Bool := false
namespace HostM
def new (p : ParM) : HostM := { p, value := List.replicate p.out.toNat 0 }
def reset (h : HostM) : HostM := { p := h.p, log := h.log, value := List.replicate h.p.out.toNat 0 }
def trip (h : HostM) (code : Int) : HostM :=
  let r := h.valve.trip code
  { h with valve := r.1, log := if r.2 then noteM h.log code h.session h.number else h.log }
def alive (h : HostM) : HostM := { h with waits := false, missed := 0, since := 0, valve := h.valve.come }
def run (h : HostM) (on : Bool) : HostM := { h with valve := h.valve.run on }
def leave (h : HostM) : HostM := { h with valve := h.valve.run false, state := 1, number := 0, sent := 0, waits := false, missed := 0 }
def lost (h : HostM) : HostM :=
  if h.state = 1 ∨ h.waits = false then h else
  let g := { h with missed := h.missed + 1 }
  if g.missed < 4 then g else (if g.state = 4 then g.trip 131 else g).leave
def frame (h : HostM) (kind session number flags : Int) (data : List UInt8) : List UInt8 := (UnitM.mk kind h.p.code session number flags data).encode
def compose (h : HostM) : HostM × List UInt8 :=
  if h.state = 1 then (h, h.frame 1 0 0 0 h.p.sign) else if h.state = 2 then (h, h.frame 2 h.session 0 0 h.p.sign) else if h.state = 3 then (h, h.frame 3 h.session 0 0 [])
  else
    let g := { h with sent := h.sent + 1 }
    if g.sent = g.p.count then
      let k := { (g.trip 80).run false with state := 5 }
      (k, k.frame 5 k.session k.sent 0 [])
    else (g, g.frame 4 g.session g.sent (flagsM g.valve g.hold) g.value)
def send (h : HostM) : HostM × List UInt8 × Int :=
  if h.state = 5 then (h, [], 132) else
  let c := h.lost.compose
  ({ c.1 with waits := true }, c.2, 0)
def take (h : HostM) (u : UnitM) : HostM × Int :=
  if h.state = 1 then
    if u.kind ≠ 17 ∨ u.session ≤ h.session then (h, 130)
    else if u.data ≠ h.p.sign then (h, 91)
    else (({ h with session := u.session, state := 2 } : HostM).alive, 0)
  else if u.session ≠ h.session ∨ h.state = 5 then (h, 130)
  else if h.state = 2 ∧ u.kind = 18 then (({ h with state := 3 } : HostM).alive, 0)
  else if h.state = 3 ∧ u.kind = 19 then (({ h with state := 4 } : HostM).run true |>.alive, 0)
  else if h.state = 4 ∧ u.kind = 20 ∧ h.number < u.number ∧ u.number < h.p.count ∧ (u.data.length : Int) = h.p.inn then
    let g := ({ h with number := u.number } : HostM).alive
    ({ g with valve := (g.valve.hold (decide (8 ≤ u.flags))).take u.data }, 0)
  else if h.state = 4 ∧ u.kind = 21 ∧ h.number < u.number ∧ u.number = h.p.count then
    let g := ({ h with number := u.number } : HostM).alive
    ({ (g.trip 80).run false with state := 5 }, 0)
  else (h, 130)
def read (h : HostM) (b : List UInt8) : HostM × Int :=
  let d := decodeM b
  if d.2 ≠ 0 then (h, d.2) else if !isDev d.1.kind then (h, 43) else if d.1.code ≠ h.p.code then (h, 44) else h.take d.1
def receive (h : HostM) (b : List UInt8) : HostM × Int :=
  let r := h.read b
  if r.2 = 0 then r else ({ r.1 with log := noteM r.1.log r.2 r.1.session r.1.number }, r.2)
def write (h : HostM) (b : List UInt8) (hold : Bool) : HostM × Int :=
  if (b.length : Int) ≠ h.p.out then (h, 45) else ({ h with value := b, hold := hold }, 0)
def tick (h : HostM) (n : Int) : HostM × Int :=
  if n < 0 then (h, 2) else
  let r := ticksM h.p.watch h.since n
  let g := { h with since := r.1 }
  (if r.2 then g.trip 100 else g, 0)
def ack (h : HostM) : HostM × Int := if h.valve.request then ({ h with valve := h.valve.ack }, 0) else (h, 110)
def see (h : HostM) : EndM := ⟨h.state, h.session, h.number, h.sent, h.since, h.valve.latched, h.valve.request, h.valve.on, h.valve.output h.p.inn⟩
end HostM
end Go.Proofs.YtdiogamcjihejaaGreat
