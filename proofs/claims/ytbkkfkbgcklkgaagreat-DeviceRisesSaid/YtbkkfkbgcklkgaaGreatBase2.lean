/- The base of the laws, part 2: contracts and plain lemmas, no statement. -/
import Derived.Test.YtbkkfkbgcklkgaaGreatBase1
import Derived.Test.YtbkkfkbgcklkgaaGreatProg
import Derived.Deep.RegionHeld3
/- Units, sets, valves, dogs, hosts: plain. -/
namespace Go.Proofs.YtbkkfkbgcklkgaaGreat

/-- A unit. -/
structure UnitM where
  kind : Int
  code : Int
  session : Int
  number : Int
  flags : Int
  data : List UInt8
  deriving DecidableEq
def UnitM.zero : UnitM := ⟨0, 0, 0, 0, 0, []⟩
def isHost (k : Int) : Bool := decide (1 ≤ k) && decide (k ≤ 5)
def isDev (k : Int) : Bool := decide (17 ≤ k) && decide (k ≤ 22)
def dataOk (k : Int) (n : Nat) : Bool := if k = 1 ∨ k = 2 ∨ k = 17 then n == 4 else if k = 4 ∨ k = 20 then decide (1 ≤ n ∧ n ≤ 8) else n == 0
def sessOk (k s : Int) : Bool := if k = 1 then s == 0 else if k = 22 then true else s != 0
def numOk (k n : Int) : Bool := decide (k = 4 ∨ k = 20 ∨ k = 5 ∨ k = 21) == (n != 0)
def flagOk (k f : Int) : Bool := decide (0 ≤ f ∧ f ≤ 15) && (decide (k = 4 ∨ k = 20) || f == 0)
def UnitM.lawful (u : UnitM) : Int :=
  if !isHost u.kind && !isDev u.kind then 43 else if u.code == 0 then 44 else if !dataOk u.kind u.data.length then 45
  else if !sessOk u.kind u.session then 46 else if !numOk u.kind u.number then 47 else if !flagOk u.kind u.flags then 48 else 0
/-- A byte of a number. -/
def byteOf (n : Int) : UInt8 := ⟨BitVec.ofInt 8 n⟩
/-- The four bytes of a number. -/
def wordBytes (n : Int) : List UInt8 := wordOf (BitVec.ofInt 32 n)
def UnitM.body (u : UnitM) : List UInt8 := [byteOf u.kind] ++ wordBytes u.code ++ wordBytes u.session ++ wordBytes u.number ++ [byteOf u.flags, byteOf u.data.length] ++ u.data
def UnitM.encode (u : UnitM) : List UInt8 := if u.lawful = 0 then sealM u.body else []
/-- The number of four bytes at a place. -/
def numAt (b : List UInt8) (i : Nat) : Int := ((ofWord (b.getD i 0) (b.getD (i + 1) 0) (b.getD (i + 2) 0) (b.getD (i + 3) 0)).toNat : Int)
def unitOf (b : List UInt8) : UnitM := ⟨(b.getD 0 0).toNat, numAt b 1, numAt b 5, numAt b 9, (b.getD 13 0).toNat, (b.drop 15).take (b.length - 19)⟩
def decodeM (b : List UInt8) : UnitM × Int :=
  if b.length < 19 then (.zero, 40) else if b.length > 27 then (.zero, 41) else if crcOf 0#32 b ≠ 0#32 then (.zero, 42)
  else
    let u := unitOf b
    let e := if u.lawful ≠ 43 ∧ u.lawful ≠ 44 ∧ (b.getD 14 0).toNat ≠ u.data.length then 45 else u.lawful
    if e ≠ 0 then (.zero, e) else (u, 0)

/-- A parameter set. -/
structure ParM where
  code : Int
  out : Int
  inn : Int
  watch : Int
  count : Int
  deriving DecidableEq
def ParM.lawful (p : ParM) : Bool := decide (p.code ≠ 0 ∧ 1 ≤ p.out ∧ p.out ≤ 8 ∧ 1 ≤ p.inn ∧ p.inn ≤ 8 ∧ 1 ≤ p.watch ∧ p.watch ≤ 1048576 ∧ 2 ≤ p.count)
def ParM.bytes (p : ParM) : List UInt8 := wordBytes p.code ++ [byteOf p.out, byteOf p.inn] ++ wordBytes p.watch ++ wordBytes p.count
def ParM.sign (p : ParM) : List UInt8 := wordOf (crcOf 0#32 p.bytes)

/-- A dog and a valve: what a reset takes away at either end. -/
structure ValveM where
  running : Bool := false
  held : Bool := false
  fresh : Bool := false
  latched : Int := 0
  value : Option (List UInt8) := none
  deriving DecidableEq
namespace ValveM
def trip (v : ValveM) (code : Int) : ValveM × Bool :=
  if code = 0 then (v, false) else
  ({ v with value := none, fresh := false, latched := if v.latched = 0 then code else v.latched }, v.latched == 0)
def run (v : ValveM) (on : Bool) : ValveM := if v.running = on then v else { v with running := on, held := false, value := none }
def hold (v : ValveM) (on : Bool) : ValveM := { v with held := on && v.running }
def come (v : ValveM) : ValveM := { v with fresh := v.latched != 0 }
def take (v : ValveM) (b : List UInt8) : ValveM := if v.running && v.latched == 0 then { v with value := some b } else v
def request (v : ValveM) : Bool := v.running && v.fresh && v.latched != 0
def ack (v : ValveM) : ValveM := if v.request then { v with latched := 0, fresh := false } else v
def on (v : ValveM) : Bool := v.running && !v.held && v.value.isSome
def output (v : ValveM) (n : Int) : List UInt8 := if v.on then v.value.getD [] else List.replicate n.toNat 0
end ValveM
/-- Ticks: the dog's count, and whether it fell. -/
def ticksM (limit since n : Int) : Int × Bool :=
  if limit ≤ since then (since, false) else if limit - since ≤ n then (limit, true) else (since + n, false)
def flagsM (v : ValveM) (hold : Bool) : Int := (if v.on then 0 else 1) + (if v.request then 2 else 0) + (if v.latched = 0 then 0 else 4) + (if hold then 8 else 0)
/-- Noted. -/
def noteM (l : List Rec) (code s k : Int) : List Rec := l ++ [⟨l.length + 1, code, s, k⟩]

/-- What one sees of an end. -/
structure EndM where
  state : Int
  session : Int
  number : Int
  sent : Int
  since : Int
  latched : Int
  request : Bool
  on : Bool
  out : List UInt8
  deriving DecidableEq

/-- A host. -/
structure HostM where
  p : ParM
  log : List Rec := []
  since : Int := 0
  valve : ValveM := {}
  state : Int := 1
  session : Int := 0
  number : Int := 0
  sent : Int := 0
  waits : Bool := false
  missed : Int := 0
  value : List UInt8
  hold : Bool := false
namespace HostM
def new (p : ParM) : HostM := { p, value := List.replicate p.out.toNat 0 }
def reset (h : HostM) : HostM := { p := h.p, log := h.log, value := List.replicate h.p.out.toNat 0 }
def trip (h : HostM) (code : Int) : HostM :=
  let r := h.valve.trip code
  { h with valve := r.1, log := if r.2 then noteM h.log code h.session h.number else h.log }
def alive (h : HostM) : HostM := { h with waits := false, missed := 0, since := 0, valve := h.valve.come }
def run (h : HostM) (on : Bool) : HostM := { h with valve := h.valve.run on }
def leave (h : HostM) : HostM := { h with valve := h.valve.run false, state := 1, number := 0, sent := 0, waits := false, missed := 0 }
def lost (h : HostM) : HostM :=
  if h.state = 1 ∨ h.waits = false then h else
  let g := { h with missed := h.missed + 1 }
  if g.missed < 4 then g else (if g.state = 4 then g.trip 131 else g).leave
def frame (h : HostM) (kind session number flags : Int) (data : List UInt8) : List UInt8 := (UnitM.mk kind h.p.code session number flags data).encode
def compose (h : HostM) : HostM × List UInt8 :=
  if h.state = 1 then (h, h.frame 1 0 0 0 h.p.sign) else if h.state = 2 then (h, h.frame 2 h.session 0 0 h.p.sign) else if h.state = 3 then (h, h.frame 3 h.session 0 0 [])
  else
    let g := { h with sent := h.sent + 1 }
    if g.sent = g.p.count then
      let k := { (g.trip 80).run false with state := 5 }
      (k, k.frame 5 k.session k.sent 0 [])
    else (g, g.frame 4 g.session g.sent (flagsM g.valve g.hold) g.value)
def send (h : HostM) : HostM × List UInt8 × Int :=
  if h.state = 5 then (h, [], 132) else
  let c := h.lost.compose
  ({ c.1 with waits := true }, c.2, 0)
def take (h : HostM) (u : UnitM) : HostM × Int :=
  if h.state = 1 then
    if u.kind ≠ 17 ∨ u.session ≤ h.session then (h, 130)
    else if u.data ≠ h.p.sign then (h, 91)
    else (({ h with session := u.session, state := 2 } : HostM).alive, 0)
  else if u.session ≠ h.session ∨ h.state = 5 then (h, 130)
  else if h.state = 2 ∧ u.kind = 18 then (({ h with state := 3 } : HostM).alive, 0)
  else if h.state = 3 ∧ u.kind = 19 then (({ h with state := 4 } : HostM).run true |>.alive, 0)
  else if h.state = 4 ∧ u.kind = 20 ∧ h.number < u.number ∧ u.number < h.p.count ∧ (u.data.length : Int) = h.p.inn then
    let g := ({ h with number := u.number } : HostM).alive
    ({ g with valve := (g.valve.hold (decide (8 ≤ u.flags))).take u.data }, 0)
  else if h.state = 4 ∧ u.kind = 21 ∧ h.number < u.number ∧ u.number = h.p.count then
    let g := ({ h with number := u.number } : HostM).alive
    ({ (g.trip 80).run false with state := 5 }, 0)
  else (h, 130)
def read (h : HostM) (b : List UInt8) : HostM × Int :=
  let d := decodeM b
  if d.2 ≠ 0 then (h, d.2) else if !isDev d.1.kind then (h, 43) else if d.1.code ≠ h.p.code then (h, 44) else h.take d.1
def receive (h : HostM) (b : List UInt8) : HostM × Int :=
  let r := h.read b
  if r.2 = 0 then r else ({ r.1 with log := noteM r.1.log r.2 r.1.session r.1.number }, r.2)
def write (h : HostM) (b : List UInt8) (hold : Bool) : HostM × Int :=
  if (b.length : Int) ≠ h.p.out then (h, 45) else ({ h with value := b, hold := hold }, 0)
def tick (h : HostM) (n : Int) : HostM × Int :=
  if n < 0 then (h, 2) else
  let r := ticksM h.p.watch h.since n
  let g := { h with since := r.1 }
  (if r.2 then g.trip 100 else g, 0)
def ack (h : HostM) : HostM × Int := if h.valve.request then ({ h with valve := h.valve.ack }, 0) else (h, 110)
def see (h : HostM) : EndM := ⟨h.state, h.session, h.number, h.sent, h.since, h.valve.latched, h.valve.request, h.valve.on, h.valve.output h.p.inn⟩
end HostM
end Go.Proofs.YtbkkfkbgcklkgaaGreat
/- slices.Clone at this seat's instances. -/
namespace Go.Proofs.YtbkkfkbgcklkgaaGreat
open Go.RowKit
set_option maxHeartbeats 400000
set_option maxRecDepth 100000
theorem own_base {w : World} {base base' : Nat} {e : TypeId} {size n : Nat} {v : Value} {xs : List Value} (h : w.ownsRow base e size v n xs) (hb : base' ≤ base) : w.ownsRow base' e size v n xs := by
  refine ⟨h.1, ?_⟩
  rcases h.2 with h | ⟨g, cap, cur, h1, h2, h3⟩
  · exact .inl h
  · exact .inr ⟨g, cap, cur, h1, by omega, h3⟩
theorem cloneRec_info : (Tryz.prog.info? 175).map (fun i => (i.zero, i.size, i.bytes)) = some (some (.agg #[.int .i64 0, .int .i64 0, .int .u32 0, .int .u32 0]), 4, 24) := by kernel_rfl
theorem cloneRec_any (A : Option Addr) (n c : Nat) (xs : List Value) (w : World) (hA : A = none → c = 0) (hr : Reads w w.heap.size 4 A n xs) (h1 : ∀ u ∈ xs, u.oneCell' = true) (hn : n ≤ 1000000) :
    Calls Tryz.prog 98 #[.slice A n c] w fun e w' => ∃ v, e = .returned v ∧ w'.ownsRow w.heap.size 175 4 v n xs ∧ Below w.heap.size w w' := by
  obtain ⟨i0, hi0, hz0, hz1, hz2⟩ := info_parts cloneRec_info
  cases A with
  | none =>
    obtain rfl := hA rfl
    have hn0 : n = 0 := by
      rcases Nat.eq_zero_or_pos n with h | h
      · exact h
      · obtain ⟨ad, h, _⟩ := hr.2 h; cases h
    subst hn0
    have hx : xs = [] := List.eq_nil_of_length_eq_zero (by simpa using hr.1)
    subst hx
    have he := fun (W : World) (a : Option Addr) (n c n' c' : Nat) => Lib.run_eql_slice_nil (P := Tryz.prog) W 78 175 a n c n' c' Tryz.underlying78
    go_enter Tryz.func98, Tryz.ntmps98
    go_wp2_with fail
    go_ret
    exact ⟨_, rfl, World.ownsRow_nil _ _ _ _, Below.refl _ _⟩
  | some ad =>
    have he := fun (W : World) (a : Option Addr) (n c n' c' : Nat) => Lib.run_eql_slice_nil (P := Tryz.prog) W 78 175 a n c n' c' Tryz.underlying78
    go_enter Tryz.func98, Tryz.ntmps98
    go_wp2_with (at_builtin; refine wpList_append_any _ rfl (.tmp 5) (.tmp 6) _ rfl w.heap.size 175 i0 _ 4 24 Tryz.underlying78 hi0 hz0 hz1 hz2 rfl (by omega) (.slice (some ⟨w.heap.size, 0, none⟩) 0 0) 0 [] rfl (World.ownsRow_made w #[] 0 (Nat.le_refl _) (by unfold maxLen; omega) rfl) w.heap.size (some ad) n c xs rfl (hr.alloc (Nat.le_refl _) _) h1 (by unfold maxLen; omega) (by omega) (by simp) ?_; intro v1 w1 hown1 hg1 hat1)
    go_ret
    exact ⟨_, rfl, by simpa using hown1, ((Below.refl _ _).alloc (Nat.le_refl _) _).grown hg1 (by simp) (fun k hk => by simp [Value.ownBlock] at hk; omega)⟩
end Go.Proofs.YtbkkfkbgcklkgaaGreat
/- crc's functions by their contracts. -/
namespace Go.Proofs.YtbkkfkbgcklkgaaGreat
open Go.RowKit
set_option maxHeartbeats 4000000
set_option maxRecDepth 100000

/-- The cells of bytes. -/
def u8c (l : List UInt8) : List Value := l.map fun c => .int .u8 (c.toNat : Int)
/-- A word as a value. -/
abbrev u32v (s : BitVec 32) : Value := .int .u32 (s.toNat : Int)
theorem xor32 (x y : Int) : bits .xor .u32 x y = ((BitVec.ofInt 32 x ^^^ BitVec.ofInt 32 y).toNat : Int) := by
  unfold bits
  have h := (BitVec.ofInt 32 x ^^^ BitVec.ofInt 32 y).isLt
  exact IntWalk.u32_in ((BitVec.ofInt 32 x ^^^ BitVec.ofInt 32 y).toNat : Int) ⟨by omega, by omega⟩
theorem ofInt_nat (s : BitVec 32) : BitVec.ofInt 32 (s.toNat : Int) = s := by simp
theorem shl1 (r : BitVec 32) : BitVec.ofInt 32 ((r.toNat : Int) * 2 % 4294967296) = r <<< 1 := by
  apply BitVec.eq_of_toNat_eq
  simp [BitVec.toNat_shiftLeft, Nat.shiftLeft_eq]
  omega
theorem byteUp (c : UInt8) : BitVec.ofInt 32 ((c.toNat : Int) % 4294967296 * 16777216 % 4294967296) = c.toBitVec.setWidth 32 <<< 24 := by
  apply BitVec.eq_of_toNat_eq
  have h := c.toNat_lt
  simp [BitVec.toNat_shiftLeft, Nat.shiftLeft_eq]
  omega
theorem msb32 (r : BitVec 32) : r.msb = ((r.toNat : Int) / 2147483648 != 0) := by
  rw [BitVec.msb_eq_decide]
  have := r.isLt
  by_cases h : 2147483648 ≤ r.toNat
  · have e : ((r.toNat : Int) / 2147483648 != 0) = true := by simp; omega
    rw [e]; simpa using h
  · have e : ((r.toNat : Int) / 2147483648 != 0) = false := by simp; omega
    rw [e]; simpa using h
theorem crcStep_any (s : BitVec 32) (c : UInt8) (w : World) :
    Calls Tryz.prog 179 #[u32v s, .int .u8 (c.toNat : Int)] w fun e w' => e = .returned (u32v (crcByte s c)) ∧ w' = w := by
  go_enter Tryz.func179, Tryz.ntmps179
  go_wp2_with fail
  go_loopg [0, 10] 8 (fun q v0 v10 wr => ∃ (k : Nat), k + q = 8 ∧ v10 = .int .i64 k ∧ v0 = u32v (crcZn k (s ^^^ (c.toBitVec.setWidth 32 <<< 24))) ∧ wr = w)
  case atStart =>
    refine ⟨0, rfl, rfl, ?_, rfl⟩
    rw [xor32, ofInt_nat, byteUp]
    rfl
  case round =>
    obtain ⟨k, hq, rfl, rfl, rfl⟩ := hrel
    have e1 : crcZn (k + 1) (s ^^^ (c.toBitVec.setWidth 32 <<< 24)) = crcZ (crcZn k (s ^^^ (c.toBitVec.setWidth 32 <<< 24))) := by rw [crcZn_succ]; rfl
    have hm := msb32 (crcZn k (s ^^^ (c.toBitVec.setWidth 32 <<< 24)))
    by_cases hk : k < 8
    · go_wp2_with fail
      · go_roundg (8 - (k + 1))
        case measure => omega
        case rel =>
          rename_i h
          rw [h] at hm
          refine ⟨k + 1, by omega, by go_num, ?_, rfl⟩
          rw [e1, xor32, shl1]
          unfold crcZ
          rw [hm]
          rfl
      · go_roundg (8 - (k + 1))
        case measure => omega
        case rel =>
          rename_i h
          rw [h] at hm
          refine ⟨k + 1, by omega, by go_num, ?_, rfl⟩
          rw [e1]
          unfold crcZ
          rw [hm]
          have e2 := congrArg BitVec.toNat (shl1 (crcZn k (s ^^^ (c.toBitVec.setWidth 32 <<< 24))))
          simp at e2
          simp [← e2]
          omega
    · have hk8 : k = 8 := by omega
      subst hk8
      go_wp2_with fail
      go_ret
      exact ⟨rfl, rfl⟩
theorem crcOf_take {l : List UInt8} {k : Nat} (h : k < l.length) : crcOf 0#32 (l.take (k + 1)) = crcByte (crcOf 0#32 (l.take k)) l[k] := by
  unfold crcOf
  rw [List.take_succ_eq_append_getElem h, List.foldl_append]
  rfl
/-- The check over bytes. -/
theorem crcBits_any (A : Option Addr) (n c : Nat) (l : List UInt8) (B : Nat) (w : World) (hr : Reads w B 1 A n (u8c l)) (hn : n < 1073741824) :
    Calls Tryz.prog 157 #[.slice A n c] w fun e w' => e = .returned (u32v (crcOf 0#32 l)) ∧ w' = w := by
  have hl : l.length = n := by have := hr.1; simpa [u8c] using this
  have Hl := Lib.hid hl
  clear hl
  go_enter Tryz.func157, Tryz.ntmps157
  go_wp2_with fail
  go_loopg [3, 5, 8] n (fun q v3 _v5 v8 wr => ∃ (k : Nat), k + q = n ∧ v8 = .int .i64 k ∧ v3 = u32v (crcOf 0#32 (l.take k)) ∧ wr = w)
  case atStart => exact ⟨0, by omega, rfl, rfl, rfl⟩
  case round =>
    obtain ⟨k, hq, rfl, rfl, rfl⟩ := hrel
    by_cases hk : k < n
    · obtain ⟨ad, u, rfl, hb, hu, hcell⟩ := hr.at_ hk
      have hkl : k < l.length := by rw [Hl.out]; exact hk
      obtain rfl : u = .int .u8 (l[k].toNat : Int) := by
        simp [u8c, hkl] at hu
        exact hu.symm
      go_wp2_with (go_at_call 179; refine (crcStep_any _ _ _).mono ?_; rintro e w' ⟨rfl, rfl⟩)
      go_roundg (n - (k + 1))
      case measure => omega
      case rel =>
        refine ⟨k + 1, by omega, by go_num, ?_, rfl⟩
        rw [crcOf_take hkl]
    · obtain rfl : k = n := by omega
      go_wp2_with fail
      go_ret
      refine ⟨?_, rfl⟩
      have hnl := Hl.out
      rw [List.take_of_length_le (by omega)]
      rfl
end Go.Proofs.YtbkkfkbgcklkgaaGreat
/- Slices of bytes: Clone, a word put at the end, a word read. -/
namespace Go.Proofs.YtbkkfkbgcklkgaaGreat
open Go.RowKit
set_option maxHeartbeats 4000000
set_option maxRecDepth 100000

theorem u8c_length (l : List UInt8) : (u8c l).length = l.length := by simp [u8c]
theorem u8c_one (l : List UInt8) : ∀ u ∈ u8c l, u.oneCell' = true := by
  intro u hu
  obtain ⟨c, _, rfl⟩ := List.mem_map.1 hu
  rfl
theorem u8c_append (l m : List UInt8) : u8c (l ++ m) = u8c l ++ u8c m := by simp [u8c]
theorem u8c_get (l : List UInt8) (k : Nat) : (u8c l)[k]? = l[k]?.map fun c => .int .u8 (c.toNat : Int) := by simp [u8c]
theorem u8c_inj {l m : List UInt8} (h : u8c l = u8c m) : l = m := by
  induction l generalizing m with
  | nil =>
    cases m with
    | nil => rfl
    | cons => cases h
  | cons a l ih =>
    cases m with
    | nil => cases h
    | cons b m =>
      simp only [u8c, List.map_cons, List.cons.injEq] at h
      obtain ⟨h1, h2⟩ := h
      have : a.toNat = b.toNat := by injection h1 with _ h; omega
      rw [ih h2, UInt8.toNat_inj.1 this]
theorem byte_info : (Tryz.prog.info? 5).map (fun i => (i.zero, i.size, i.bytes)) = some (some (.int .u8 0), 1, 1) := by kernel_rfl
/-- slices.Clone of bytes: nil stays nil. -/
theorem cloneByte_any (A : Option Addr) (n c : Nat) (l : List UInt8) (B : Nat) (w : World) (hA : A = none → n = 0) (hr : Reads w B 1 A n (u8c l)) (hB : B ≤ w.heap.size) (hn : n ≤ 1000000) :
    Calls Tryz.prog 58 #[.slice A n c] w fun e w' => ∃ v, e = .returned v ∧ w'.ownsRow w.heap.size 5 1 v n (u8c l) ∧ (A = none → v = .slice none 0 0) ∧ (A ≠ none → ∃ g, v.ownBlock = some g) ∧ Below w.heap.size w w' := by
  obtain ⟨i0, hi0, hz0, hz1, hz2⟩ := info_parts byte_info
  cases A with
  | none =>
    obtain rfl := hA rfl
    have hx : u8c l = [] := List.eq_nil_of_length_eq_zero (by simpa using hr.1)
    have he := fun (W : World) (a : Option Addr) (n c n' c' : Nat) => Lib.run_eql_slice_nil (P := Tryz.prog) W 41 5 a n c n' c' Tryz.underlying41
    go_enter Tryz.func58, Tryz.ntmps58
    go_wp2_with fail
    go_ret
    exact ⟨_, rfl, World.ownsRow_nil _ _ _ _, rfl, Below.refl _ _⟩
  | some ad =>
    have he := fun (W : World) (a : Option Addr) (n c n' c' : Nat) => Lib.run_eql_slice_nil (P := Tryz.prog) W 41 5 a n c n' c' Tryz.underlying41
    go_enter Tryz.func58, Tryz.ntmps58
    go_wp2_with (at_builtin; refine wpList_append_any _ rfl (.tmp 5) (.tmp 6) _ rfl w.heap.size 5 i0 _ 1 1 Tryz.underlying41 hi0 hz0 hz1 hz2 rfl (by omega) (.slice (some ⟨w.heap.size, 0, none⟩) 0 0) 0 [] rfl (World.ownsRow_made w #[] 0 (Nat.le_refl _) (by unfold maxLen; omega) rfl) B (some ad) n c (u8c l) rfl (hr.alloc hB _) (u8c_one l) (by unfold maxLen; omega) (by omega) (by simp) ?_; intro v1 w1 hown1 hg1 hat1)
    go_ret
    refine ⟨_, rfl, by simpa using hown1, fun h => (by cases h), fun _ => ?_, ((Below.refl _ _).alloc (Nat.le_refl _) _).grown hg1 (by simp) (fun k hk => by simp [Value.ownBlock] at hk; omega)⟩
    rcases hat1 with h | h
    · exact ⟨_, h⟩
    · exact ⟨_, h⟩
/-- The four bytes of a word, as the program cuts them. -/
theorem word_cells (s : BitVec 32) : #[Value.int .u8 ((s.toNat : Int) / 16777216), .int .u8 ((s.toNat : Int) / 65536 % 256), .int .u8 ((s.toNat : Int) / 256 % 256), .int .u8 ((s.toNat : Int) % 256)] = (u8c (wordOf s)).toArray := by
  have h24 : ((s >>> 24).setWidth 8).toNat = s.toNat / 16777216 := by
    have := s.isLt
    simp [Nat.shiftRight_eq_div_pow]
    omega
  have h16 : ((s >>> 16).setWidth 8).toNat = s.toNat / 65536 % 256 := by simp [Nat.shiftRight_eq_div_pow]
  have h8 : ((s >>> 8).setWidth 8).toNat = s.toNat / 256 % 256 := by simp [Nat.shiftRight_eq_div_pow]
  have h0 : (s.setWidth 8).toNat = s.toNat % 256 := by simp
  simp only [u8c, wordOf, List.map_cons, List.map_nil, UInt8.toNat, h24, h16, h8, h0]
  simp
theorem word_reads {w : World} {g : Nat} {t : TypeId} {s : BitVec 32} (h : Blk w g t #[Value.int .u8 ((s.toNat : Int) / 16777216), .int .u8 ((s.toNat : Int) / 65536 % 256), .int .u8 ((s.toNat : Int) / 256 % 256), .int .u8 ((s.toNat : Int) % 256)]) :
    Reads w w.heap.size 1 (some ⟨g, 0, none⟩) 4 (u8c (wordOf s)) := by
  have hr := Reads.of_blk h (B := w.heap.size) (size := 1) (n := 4) h.lt rfl
  rw [word_cells] at hr
  exact hr
/-- A word put at the end of a row of the caller's own. -/
theorem unitPut_any (v : Value) (n : Nat) (l : List UInt8) (s : BitVec 32) (base : Nat) (w : World) (hown : w.ownsRow base 5 1 v n (u8c l)) (hb : base ≤ w.heap.size) (hn : n ≤ 1000000) :
    Calls Tryz.prog 193 #[v, u32v s] w fun e w' => ∃ v', e = .returned v' ∧ w'.ownsRow base 5 1 v' (n + 4) (u8c (l ++ wordOf s)) ∧ Below base w w' := by
  obtain ⟨i0, hi0, hz0, hz1, hz2⟩ := info_parts byte_info
  have hlt := hown.lt
  go_enter Tryz.func193, Tryz.ntmps193
  go_wp2_with (at_builtin; refine wpList_append_any _ rfl (.tmp 5) (.tmp 17) _ rfl base 5 i0 _ 1 1 Tryz.underlying41 hi0 hz0 hz1 hz2 rfl (by omega) v n (u8c l) rfl (hown.alloc _) (w.heap.size + 1) (some ⟨w.heap.size, 0, none⟩) 4 4 (u8c (wordOf s)) rfl (by simpa using word_reads (Blk.new w 5 _)) (u8c_one _) (by unfold maxLen; omega) (by omega) (by simp; omega) ?_; intro v1 w1 hown1 hg1 hat1)
  go_ret
  refine ⟨_, rfl, ?_, ?_⟩
  · rw [u8c_append]; exact hown1
  · refine ((Below.refl _ _).alloc hb _).grown hg1 (by simp; omega) ?_
    intro k hk
    exact (hlt k hk).1
theorem paramWord_any (v : Value) (n : Nat) (l : List UInt8) (s : BitVec 32) (base : Nat) (w : World) (hown : w.ownsRow base 5 1 v n (u8c l)) (hb : base ≤ w.heap.size) (hn : n ≤ 1000000) :
    Calls Tryz.prog 192 #[v, u32v s] w fun e w' => ∃ v', e = .returned v' ∧ w'.ownsRow base 5 1 v' (n + 4) (u8c (l ++ wordOf s)) ∧ Below base w w' := by
  obtain ⟨i0, hi0, hz0, hz1, hz2⟩ := info_parts byte_info
  have hlt := hown.lt
  go_enter Tryz.func192, Tryz.ntmps192
  go_wp2_with (at_builtin; refine wpList_append_any _ rfl (.tmp 5) (.tmp 17) _ rfl base 5 i0 _ 1 1 Tryz.underlying41 hi0 hz0 hz1 hz2 rfl (by omega) v n (u8c l) rfl (hown.alloc _) (w.heap.size + 1) (some ⟨w.heap.size, 0, none⟩) 4 4 (u8c (wordOf s)) rfl (by simpa using word_reads (Blk.new w 5 _)) (u8c_one _) (by unfold maxLen; omega) (by omega) (by simp; omega) ?_; intro v1 w1 hown1 hg1 hat1)
  go_ret
  refine ⟨_, rfl, ?_, ?_⟩
  · rw [u8c_append]; exact hown1
  · refine ((Below.refl _ _).alloc hb _).grown hg1 (by simp; omega) ?_
    intro k hk
    exact (hlt k hk).1
theorem or32 (x y : Int) : bits .or .u32 x y = ((BitVec.ofInt 32 x ||| BitVec.ofInt 32 y).toNat : Int) := by
  unfold bits
  have h := (BitVec.ofInt 32 x ||| BitVec.ofInt 32 y).isLt
  exact IntWalk.u32_in ((BitVec.ofInt 32 x ||| BitVec.ofInt 32 y).toNat : Int) ⟨by omega, by omega⟩
theorem ofWord_or (a b c d : UInt8) : (((a.toBitVec.setWidth 32 <<< 24) ||| (b.toBitVec.setWidth 32 <<< 16)) ||| (c.toBitVec.setWidth 32 <<< 8)) ||| d.toBitVec.setWidth 32 = ofWord a b c d := by
  have far : ∀ (x : UInt8) (i : Nat), 8 ≤ i → x.toBitVec.getLsbD i = false := fun x i h => BitVec.getLsbD_of_ge _ _ h
  apply BitVec.eq_of_getLsbD_eq
  intro i hi
  unfold ofWord
  simp only [BitVec.getLsbD_xor, BitVec.getLsbD_or, BitVec.getLsbD_shiftLeft, BitVec.getLsbD_setWidth]
  by_cases h8 : i < 8
  · simp [h8, hi, show i < 16 by omega, show i < 24 by omega]
  · have fd := far d i (by omega)
    by_cases h16 : i < 16
    · simp [h8, hi, h16, fd, show i < 24 by omega]
    · have fc := far c (i - 8) (by omega)
      by_cases h24 : i < 24
      · simp [h8, hi, h16, h24, fd, fc]
      · have fb := far b (i - 16) (by omega)
        simp [h8, hi, h16, h24, fd, fc, fb]
theorem up16 (c : UInt8) : BitVec.ofInt 32 ((c.toNat : Int) % 4294967296 * 65536 % 4294967296) = c.toBitVec.setWidth 32 <<< 16 := by
  apply BitVec.eq_of_toNat_eq
  have h := c.toNat_lt
  simp [BitVec.toNat_shiftLeft, Nat.shiftLeft_eq]
  omega
theorem up8 (c : UInt8) : BitVec.ofInt 32 ((c.toNat : Int) % 4294967296 * 256 % 4294967296) = c.toBitVec.setWidth 32 <<< 8 := by
  apply BitVec.eq_of_toNat_eq
  have h := c.toNat_lt
  simp [BitVec.toNat_shiftLeft, Nat.shiftLeft_eq]
  omega
theorem up0 (c : UInt8) : BitVec.ofInt 32 ((c.toNat : Int) % 4294967296) = c.toBitVec.setWidth 32 := by
  apply BitVec.eq_of_toNat_eq
  have h := c.toNat_lt
  simp
  omega
theorem get_word (b0 b1 b2 b3 : UInt8) : bits .or .u32 (bits .or .u32 (bits .or .u32 ((b0.toNat : Int) % 4294967296 * 16777216 % 4294967296) ((b1.toNat : Int) % 4294967296 * 65536 % 4294967296)) ((b2.toNat : Int) % 4294967296 * 256 % 4294967296)) ((b3.toNat : Int) % 4294967296)
    = ((ofWord b0 b1 b2 b3).toNat : Int) := by
  rw [or32, or32, or32, ofInt_nat, ofInt_nat, byteUp, up16, up8, up0, ofWord_or]
/-- A word read. -/
theorem unitGet_any (ad : Addr) (n c : Nat) (b0 b1 b2 b3 : UInt8) (w : World) (hn : 4 ≤ n) (h0 : w.cell? (ad.add 0) = some (.int .u8 (b0.toNat : Int))) (h1 : w.cell? (ad.add 1) = some (.int .u8 (b1.toNat : Int)))
    (h2 : w.cell? (ad.add 2) = some (.int .u8 (b2.toNat : Int))) (h3 : w.cell? (ad.add 3) = some (.int .u8 (b3.toNat : Int))) :
    Calls Tryz.prog 131 #[.slice (some ad) n c] w fun e w' => e = .returned (u32v (ofWord b0 b1 b2 b3)) ∧ ∃ k, w' = w.drewN k := by
  have g0 : (0 : Int) < n := by omega
  have g1 : (1 : Int) < n := by omega
  have g2 : (2 : Int) < n := by omega
  have g3 : (3 : Int) < n := by omega
  rw [show ad.add 0 = ad from rfl] at h0
  rw [show ad.add 1 = ⟨ad.block, ad.off + 1, none⟩ from rfl] at h1
  rw [show ad.add 2 = ⟨ad.block, ad.off + 2, none⟩ from rfl] at h2
  rw [show ad.add 3 = ⟨ad.block, ad.off + 3, none⟩ from rfl] at h3
  go_enter Tryz.func131, Tryz.ntmps131
  go_wp2_with fail
  go_big_quiet (fail)
  go_wp2_with fail
  go_ret
  refine ⟨?_, _, rfl⟩
  exact congrArg (fun x => Ending.returned (Value.int .u32 x)) (get_word b0 b1 b2 b3)
theorem paramNumber_any (ad : Addr) (n c : Nat) (b0 b1 b2 b3 : UInt8) (w : World) (hn : 4 ≤ n) (h0 : w.cell? (ad.add 0) = some (.int .u8 (b0.toNat : Int))) (h1 : w.cell? (ad.add 1) = some (.int .u8 (b1.toNat : Int)))
    (h2 : w.cell? (ad.add 2) = some (.int .u8 (b2.toNat : Int))) (h3 : w.cell? (ad.add 3) = some (.int .u8 (b3.toNat : Int))) :
    Calls Tryz.prog 181 #[.slice (some ad) n c] w fun e w' => e = .returned (u32v (ofWord b0 b1 b2 b3)) ∧ ∃ k, w' = w.drewN k := by
  have g0 : (0 : Int) < n := by omega
  have g1 : (1 : Int) < n := by omega
  have g2 : (2 : Int) < n := by omega
  have g3 : (3 : Int) < n := by omega
  rw [show ad.add 0 = ad from rfl] at h0
  rw [show ad.add 1 = ⟨ad.block, ad.off + 1, none⟩ from rfl] at h1
  rw [show ad.add 2 = ⟨ad.block, ad.off + 2, none⟩ from rfl] at h2
  rw [show ad.add 3 = ⟨ad.block, ad.off + 3, none⟩ from rfl] at h3
  go_enter Tryz.func181, Tryz.ntmps181
  go_wp2_with fail
  go_big_quiet (fail)
  go_wp2_with fail
  go_ret
  refine ⟨?_, _, rfl⟩
  exact congrArg (fun x => Ending.returned (Value.int .u32 x)) (get_word b0 b1 b2 b3)
/-- crc.Seal. -/
theorem crcSeal_any (A : Option Addr) (n c : Nat) (l : List UInt8) (B : Nat) (w : World) (hA : A = none → n = 0) (hr : Reads w B 1 A n (u8c l)) (hB : B ≤ w.heap.size) (hn : n ≤ 100000) :
    Calls Tryz.prog 194 #[.slice A n c] w fun e w' => ∃ v, e = .returned v ∧ w'.ownsRow w.heap.size 5 1 v (n + 4) (u8c (sealM l)) ∧ Below w.heap.size w w' := by
  obtain ⟨i0, hi0, hz0, hz1, hz2⟩ := info_parts byte_info
  go_enter Tryz.func194, Tryz.ntmps194
  go_wp2_with fail
  refine (crcBits_any A n c l B w hr (by omega)).mono ?_
  rintro e w' ⟨rfl, rfl⟩
  go_wp2_with fail
  refine (cloneByte_any A n c l B w' hA hr hB (by omega)).mono ?_
  rintro e w1 ⟨v1, rfl, hown1, _, _, hb1⟩
  have hlt := hown1.lt
  have hs1 := hb1.size
  go_wp2_with (at_builtin; refine wpList_append_any _ rfl (.tmp 7) (.tmp 19) _ rfl w'.heap.size 5 i0 _ 1 1 Tryz.underlying41 hi0 hz0 hz1 hz2 rfl (by omega) v1 n (u8c l) rfl (hown1.alloc _) (w1.heap.size + 1) (some ⟨w1.heap.size, 0, none⟩) 4 4 (u8c (wordOf (crcOf 0#32 l))) rfl (by simpa using word_reads (Blk.new w1 5 _)) (u8c_one _) (by unfold maxLen; omega) (by omega) (by simp; omega) ?_; intro v2 w2 hown2 hg2 hat2)
  go_ret
  refine ⟨_, rfl, ?_, ?_⟩
  · unfold sealM; rw [u8c_append]; exact hown2
  · exact (hb1.alloc (by omega) _).grown hg2 (by simp; omega) (fun k hk => (hlt k hk).1)
/-- crc.Valid. -/
theorem crcValid_any (A : Option Addr) (n c : Nat) (l : List UInt8) (B : Nat) (w : World) (hr : Reads w B 1 A n (u8c l)) (hn4 : 4 ≤ n) (hn : n ≤ 100000) :
    Calls Tryz.prog 130 #[.slice A n c] w fun e w' => e = .returned (.bool (crcOf 0#32 l == 0#32)) ∧ ∃ k, w' = w.drewN k := by
  go_enter Tryz.func130, Tryz.ntmps130
  go_wp2_with fail
  refine (crcBits_any A n c l B w hr (by omega)).mono ?_
  rintro e w' ⟨rfl, rfl⟩
  go_wp2_with fail
  go_ret
  refine ⟨?_, 0, rfl⟩
  have : (((crcOf 0#32 l).toNat : Int) == 0) = (crcOf 0#32 l == 0#32) := by
    rw [Bool.eq_iff_iff]
    simp only [beq_iff_eq]
    constructor
    · intro h
      apply BitVec.eq_of_toNat_eq
      simp
      omega
    · intro h
      rw [h]
      rfl
  exact congrArg (fun x => Ending.returned (Value.bool x)) this
end Go.Proofs.YtbkkfkbgcklkgaaGreat
/- unit's forms and laws by their contracts. -/
namespace Go.Proofs.YtbkkfkbgcklkgaaGreat
open Go.RowKit
set_option maxHeartbeats 4000000
set_option maxRecDepth 100000

/-- What each kind of unit looks like. -/
def formM (k : Int) : (Int × Int × Int × Bool) × Bool :=
  if k = 1 then ((0, 0, 1, false), true) else if k = 2 ∨ k = 17 then ((1, 0, 1, false), true) else if k = 3 ∨ k = 18 ∨ k = 19 then ((1, 0, 0, false), true)
  else if k = 4 ∨ k = 20 then ((1, 1, 2, true), true) else if k = 5 ∨ k = 21 then ((1, 1, 0, false), true) else if k = 22 then ((2, 0, 0, false), true) else ((0, 0, 0, false), false)
def formVal (f : Int × Int × Int × Bool) : Value := .agg #[.int .i64 f.1, .int .i64 f.2.1, .int .i64 f.2.2.1, .bool f.2.2.2]
theorem formOf_any (k : Int) (w : World) : Calls Tryz.prog 158 #[.int .i64 k] w fun e w' => e = .returned (.tuple #[formVal (formM k).1, .bool (formM k).2]) ∧ Below w.heap.size w w' := by
  by_cases hk : k = 1 ∨ k = 2 ∨ k = 17 ∨ k = 3 ∨ k = 18 ∨ k = 19 ∨ k = 4 ∨ k = 20 ∨ k = 5 ∨ k = 21 ∨ k = 22
  · rcases hk with rfl | rfl | rfl | rfl | rfl | rfl | rfl | rfl | rfl | rfl | rfl
    all_goals
      go_enter Tryz.func158, Tryz.ntmps158
      go_wp2_with fail
      refine bodyPost_ret (v := _) (by simp [results, Tryz.results158, go_sem]; exact ⟨rfl, rfl⟩) rfl ⟨rfl, ?_⟩
      exact (Below.refl _ _).alloc (Nat.le_refl _) _
  · simp only [not_or] at hk
    obtain ⟨h1, h2, h3, h4, h5, h6, h7, h8, h9, h10, h11⟩ := hk
    have e : formM k = ((0, 0, 0, false), false) := by simp [formM, h1, h2, h3, h4, h5, h6, h7, h8, h9, h10, h11]
    rw [e]
    have g1 : (k == 1) = false := by simpa using h1
    have g2 : (k == 2) = false := by simpa using h2
    have g3 : (k == 17) = false := by simpa using h3
    have g4 : (k == 3) = false := by simpa using h4
    have g5 : (k == 18) = false := by simpa using h5
    have g6 : (k == 19) = false := by simpa using h6
    have g7 : (k == 4) = false := by simpa using h7
    have g8 : (k == 20) = false := by simpa using h8
    have g9 : (k == 5) = false := by simpa using h9
    have g10 : (k == 21) = false := by simpa using h10
    have g11 : (k == 22) = false := by simpa using h11
    clear h1 h2 h3 h4 h5 h6 h7 h8 h9 h10 h11
    go_enter Tryz.func158, Tryz.ntmps158
    go_wp2_with fail
    refine bodyPost_ret (v := .tuple #[formVal (0, 0, 0, false), .bool false]) (by simp [results, Tryz.results158, go_sem, formVal]) rfl ⟨rfl, ?_⟩
    exact (Below.refl _ _).alloc (Nat.le_refl _) _
def lenM (d n : Int) : Bool := if d = 1 then n == 4 else if d = 2 then decide (1 ≤ n) && decide (n ≤ 8) else n == 0
theorem unitLength_any (s n d : Int) (f : Bool) (m : Int) (w : World) : Calls Tryz.prog 159 #[formVal (s, n, d, f), .int .i64 m] w fun e w' => e = .returned (.bool (lenM d m)) ∧ Below w.heap.size w w' := by
  unfold formVal
  have hb : ∀ cs t, Below w.heap.size w (w.alloc (.cells cs t)) := fun cs t => (Below.refl _ _).alloc (Nat.le_refl _) _
  by_cases h1 : d = 1
  · subst h1
    go_enter Tryz.func159, Tryz.ntmps159
    go_wp2_with fail
    go_ret
    exact ⟨rfl, hb _ _⟩
  · have g1 : (d == 1) = false := by simpa using h1
    by_cases h2 : d = 2
    · subst h2
      by_cases h3 : 1 ≤ m
      · go_enter Tryz.func159, Tryz.ntmps159
        go_wp2_with fail
        go_ret
        exact ⟨by simp [lenM, h3], hb _ _⟩
      · go_enter Tryz.func159, Tryz.ntmps159
        go_wp2_with fail
        go_ret
        exact ⟨by simp [lenM]; omega, hb _ _⟩
    · have g2 : (d == 2) = false := by simpa using h2
      go_enter Tryz.func159, Tryz.ntmps159
      go_wp2_with fail
      go_ret
      exact ⟨by simp [lenM, h1, h2], hb _ _⟩
def fitsM (want n : Int) : Bool := want == 2 || ((want == 1) == decide (0 < n))
theorem unitFits_any (want n : Int) (w : World) : Calls Tryz.prog 160 #[.int .i64 want, .int .u32 n] w fun e w' => e = .returned (.bool (fitsM want n)) ∧ w' = w := by
  by_cases h1 : want = 2
  · subst h1
    go_enter Tryz.func160, Tryz.ntmps160
    go_wp2_with fail
    go_ret
    exact ⟨by simp [fitsM], rfl⟩
  · have g1 : (want == 2) = false := by simpa using h1
    go_enter Tryz.func160, Tryz.ntmps160
    go_wp2_with fail
    go_ret
    exact ⟨by simp [fitsM, g1], rfl⟩
def unitVal (u : UnitM) (v : Value) : Value := .agg #[.int .i64 u.kind, .int .u32 u.code, .int .u32 u.session, .int .u32 u.number, .int .i64 u.flags, v]
def lawM (s n d : Int) (f is : Bool) (u : UnitM) : Int :=
  if !is then 43 else if u.code == 0 then 44 else if !lenM d u.data.length then 45 else if !fitsM s u.session then 46 else if !fitsM n u.number then 47
  else if decide (u.flags < 0) || decide (15 < u.flags) || (!f && u.flags != 0) then 48 else 0
theorem lawM_eq (u : UnitM) (hs : 0 ≤ u.session) (hn : 0 ≤ u.number) : lawM (formM u.kind).1.1 (formM u.kind).1.2.1 (formM u.kind).1.2.2.1 (formM u.kind).1.2.2.2 (formM u.kind).2 u = u.lawful := by
  obtain ⟨kind, code, session, number, flags, data⟩ := u
  simp only at hs hn ⊢
  have e1 : decide (0 < session) = (session != 0) := by
    by_cases h : session = 0
    · subst h; rfl
    · have : 0 < session := by omega
      simp [h, this]
  have e2 : decide (0 < number) = (number != 0) := by
    by_cases h : number = 0
    · subst h; rfl
    · have : 0 < number := by omega
      simp [h, this]
  have e3 : (decide (flags < 0) || decide (15 < flags)) = !decide (0 ≤ flags ∧ flags ≤ 15) := by
    by_cases h1 : flags < 0
    · have : ¬ 0 ≤ flags := by omega
      simp [h1, this]
    · by_cases h2 : 15 < flags
      · have : ¬ flags ≤ 15 := by omega
        simp [h2, this]
      · have g1 : 0 ≤ flags := by omega
        have g2 : flags ≤ 15 := by omega
        simp [h1, h2, g1, g2]
  have e4 : (decide ((1 : Int) ≤ data.length) && decide ((data.length : Int) ≤ 8)) = decide (1 ≤ data.length ∧ data.length ≤ 8) := by
    rw [Bool.eq_iff_iff]
    simp
    omega
  have e5 : ((data.length : Int) == 4) = (data.length == 4) := by rw [Bool.eq_iff_iff]; simp; omega
  have e6 : ((data.length : Int) == 0) = (data.length == 0) := by rw [Bool.eq_iff_iff]; simp
  have e7 : (session == 0) = !(session != 0) := by simp [bne]
  have e8 : (flags == 0) = !(flags != 0) := by simp [bne]
  unfold UnitM.lawful lawM fitsM flagOk numOk sessOk dataOk lenM
  simp only [e1, e2, e3, e4, e5, e6, e7, e8]
  generalize (session != 0) = q1
  generalize (number != 0) = q2
  generalize (flags != 0) = q3
  generalize (data.length == 4) = q4
  generalize (data.length == 0) = q5
  generalize decide (1 ≤ data.length ∧ data.length ≤ 8) = q6
  generalize decide (0 ≤ flags ∧ flags ≤ 15) = q7
  clear e1 e2 e3 e4 e5 e6 e7 e8
  by_cases hk : kind = 1 ∨ kind = 2 ∨ kind = 17 ∨ kind = 3 ∨ kind = 18 ∨ kind = 19 ∨ kind = 4 ∨ kind = 20 ∨ kind = 5 ∨ kind = 21 ∨ kind = 22
  · rcases hk with rfl | rfl | rfl | rfl | rfl | rfl | rfl | rfl | rfl | rfl | rfl
    all_goals
      simp [formM, isHost, isDev]
      try (cases q1 <;> cases q2 <;> cases q3 <;> cases q7 <;> simp)
  · simp only [not_or] at hk
    obtain ⟨h1, h2, h3, h4, h5, h6, h7, h8, h9, h10, h11⟩ := hk
    have i1 : isHost kind = false := by
      unfold isHost
      by_cases h : 1 ≤ kind
      · have : ¬ kind ≤ 5 := by omega
        simp [this]
      · simp [h]
    have i2 : isDev kind = false := by
      unfold isDev
      by_cases h : 17 ≤ kind
      · have : ¬ kind ≤ 22 := by omega
        simp [this]
      · simp [h]
    simp [formM, h1, h2, h3, h4, h5, h6, h7, h8, h9, h10, h11, i1, i2]
theorem unitLawful_any (u : UnitM) (A : Option Addr) (c : Nat) (w : World) (hs : 0 ≤ u.session) (hn : 0 ≤ u.number) :
    Calls Tryz.prog 132 #[unitVal u (.slice A u.data.length c)] w fun e w' => e = .returned (.int .i64 u.lawful) ∧ Below w.heap.size w w' := by
  rw [← lawM_eq u hs hn]
  obtain ⟨kind, code, session, number, flags, data⟩ := u
  unfold unitVal
  simp only at *
  rcases hform : formM kind with ⟨⟨s, n, d, f⟩, is⟩
  go_enter Tryz.func132, Tryz.ntmps132
  go_wp2_with fail
  refine (formOf_any _ _).mono ?_
  rw [hform]
  unfold formVal
  rintro e w1 ⟨rfl, hb1⟩
  have hB := (Blk.new w 68 #[Value.int .i64 kind, .int .u32 code, .int .u32 session, .int .u32 number, .int .i64 flags, .slice A data.length c]).below hb1 (by simp)
  have hb1' : Below w.heap.size w w1 := ((Below.refl _ _).alloc (Nat.le_refl _) _).trans (hb1.mono (by simp))
  clear hb1
  have hc1 : ∀ o i, (w1.alloc o).cell? ⟨w.heap.size, i, none⟩ = (#[Value.int .i64 kind, .int .u32 code, .int .u32 session, .int .u32 number, .int .i64 flags, .slice A data.length c] : Array Value)[i]? := fun o i => (hB.alloc o).cell i
  have hn1 := hb1'.size
  cases is with
  | false =>
    go_wp2_with fail
    go_ret
    exact ⟨rfl, hb1'.alloc hn1 _⟩
  | true =>
  cases hcode : (code == 0) with
  | true =>
    go_wp2_with fail
    go_ret
    exact ⟨by simp [lawM, hcode], hb1'.alloc hn1 _⟩
  | false =>
  go_wp2_with fail
  refine (unitLength_any s n d f _ _).mono ?_
  rintro e w2 ⟨rfl, hb2⟩
  have hC := (Blk.new w1 249 #[Value.int .i64 s, .int .i64 n, .int .i64 d, .bool f]).below hb2 (by simp)
  have hc2 : ∀ i, w2.cell? ⟨w.heap.size, i, none⟩ = (#[Value.int .i64 kind, .int .u32 code, .int .u32 session, .int .u32 number, .int .i64 flags, .slice A data.length c] : Array Value)[i]? := ((hB.alloc _).below hb2 (hB.alloc _).lt).cell
  have hc3 : ∀ i, w2.cell? ⟨w1.heap.size, i, none⟩ = (#[Value.int .i64 s, .int .i64 n, .int .i64 d, .bool f] : Array Value)[i]? := hC.cell
  have hb2' : Below w.heap.size w w2 := (hb1'.alloc hn1 _).trans (hb2.mono (by simp; omega))
  clear hb2 hB hC hc1
  cases hlen : lenM d data.length with
  | false =>
    go_wp2_with fail
    go_ret
    exact ⟨by simp [lawM, hcode, hlen], hb2'⟩
  | true =>
  go_wp2_with fail
  refine (unitFits_any _ _ _).mono ?_
  rintro e w3 ⟨rfl, rfl⟩
  cases hfit : fitsM s session with
  | false =>
    go_wp2_with fail
    go_ret
    exact ⟨by simp [lawM, hcode, hlen, hfit], hb2'⟩
  | true =>
  go_wp2_with fail
  refine (unitFits_any _ _ _).mono ?_
  rintro e w4 ⟨rfl, rfl⟩
  cases hfin : fitsM n number with
  | false =>
    go_wp2_with fail
    go_ret
    exact ⟨by simp [lawM, hcode, hlen, hfit, hfin], hb2'⟩
  | true =>
  by_cases hx : flags < 0
  · go_wp2_with fail
    go_ret
    exact ⟨by simp [lawM, hcode, hlen, hfit, hfin, hx], hb2'⟩
  · by_cases hy : 15 < flags
    · go_wp2_with fail
      go_ret
      exact ⟨by simp [lawM, hcode, hlen, hfit, hfin, hy], hb2'⟩
    · cases f with
      | true =>
        go_wp2_with fail
        go_ret
        exact ⟨by simp [lawM, hcode, hlen, hfit, hfin, hx, hy], hb2'⟩
      | false =>
        cases hz : (flags != 0) with
        | true =>
          go_wp2_with fail
          go_ret
          exact ⟨by simp [lawM, hcode, hlen, hfit, hfin, hz], hb2'⟩
        | false =>
          go_wp2_with fail
          go_ret
          exact ⟨by simp [lawM, hcode, hlen, hfit, hfin, hx, hy, hz], hb2'⟩
end Go.Proofs.YtbkkfkbgcklkgaaGreat
/- Rows of the caller's own: a cell set, a block grown, another's work. No program here. -/
namespace Go.Proofs.YtbkkfkbgcklkgaaGreat
open Go.RowKit
set_option maxHeartbeats 4000000
set_option maxRecDepth 100000

theorem own_set {w : World} {base : Nat} {e : TypeId} {size n c g : Nat} {xs : List Value} (h : w.ownsRow base e size (.slice (some ⟨g, 0, none⟩) n c) n xs) (k : Nat) (u : Value) :
    ∃ xs', (w.setCell ⟨g, k, none⟩ u).ownsRow base e size (.slice (some ⟨g, 0, none⟩) n c) n xs' := by
  obtain ⟨hl, h⟩ := h
  rcases h with ⟨h, _⟩ | ⟨g', cap, cur, h, hb, hg, hn, hm, hs, hx⟩
  · cases h
  · injection h with h1 h2 h3
    injection h1 with h1
    injection h1 with h1
    subst h1 h3
    refine ⟨_, ?_, .inr ⟨g, c, cur.setIfInBounds k u, rfl, hb, Blk.set_ hg k u, hn, hm, by simpa using hs, rfl⟩⟩
    rw [List.length_take, Array.length_toList, Array.size_setIfInBounds, hs]
    exact Nat.min_eq_left (Nat.mul_le_mul_right _ hn)
theorem own_set1 {w : World} {base : Nat} {e : TypeId} {n c g : Nat} {xs : List Value} (h : w.ownsRow base e 1 (.slice (some ⟨g, 0, none⟩) n c) n xs) (k : Nat) (u : Value) :
    (w.setCell ⟨g, k, none⟩ u).ownsRow base e 1 (.slice (some ⟨g, 0, none⟩) n c) n (xs.set k u) := by
  obtain ⟨hl, h⟩ := h
  rcases h with ⟨h, _⟩ | ⟨g', cap, cur, h, hb, hg, hn, hm, hs, hx⟩
  · cases h
  · injection h with h1 h2 h3
    injection h1 with h1
    injection h1 with h1
    subst h1 h3
    refine ⟨by simpa using hl, .inr ⟨g, c, cur.setIfInBounds k u, rfl, hb, Blk.set_ hg k u, hn, hm, by simpa using hs, ?_⟩⟩
    rw [Array.toList_setIfInBounds, List.take_set, hx]
theorem own_at {w : World} {base : Nat} {e : TypeId} {size n c g : Nat} {xs : List Value} {k : Nat} (h : w.ownsRow base e size (.slice (some ⟨g, 0, none⟩) n c) n xs) :
    w.frozen? ⟨g, k, none⟩ = false ∧ (k < n * size → ∃ u, w.cell? ⟨g, k, none⟩ = some u) := by
  obtain ⟨hl, h⟩ := h
  rcases h with ⟨h, _⟩ | ⟨g', cap, cur, h, hb, hg, hn, hm, hs, hx⟩
  · cases h
  · injection h with h1 h2 h3
    injection h1 with h1
    injection h1 with h1
    subst h1 h3
    refine ⟨Blk.frozen hg k, fun hk => ?_⟩
    have hk' : k < cur.size := by rw [hs]; exact Nat.lt_of_lt_of_le hk (Nat.mul_le_mul_right _ hn)
    exact ⟨cur[k], (Blk.cell hg k).trans (Array.getElem?_eq_getElem hk')⟩
theorem own_some {w : World} {base : Nat} {e : TypeId} {size n c : Nat} {A : Option Addr} {xs : List Value} (h : w.ownsRow base e size (.slice A n c) n xs) (hn : 0 < n) : ∃ g, A = some ⟨g, 0, none⟩ := by
  rcases h.2 with ⟨_, h0⟩ | ⟨g, cap, cur, hv, _⟩
  · omega
  · injection hv with h1
    exact ⟨g, h1⟩
theorem own_far {w : World} {base : Nat} {e : TypeId} {size n g : Nat} {v : Value} {xs : List Value} (h : w.ownsRow base e size v n xs) (hg : v.ownBlock ≠ some g) (k : Nat) (u : Value) : (w.setCell ⟨g, k, none⟩ u).ownsRow base e size v n xs :=
  ownsRow_keep (S := fun x => x = g) h (Keep.setCell (S := fun x => x = g) (p := ⟨g, k, none⟩) (Keep.refl _ _) (fun _ => rfl) u) (fun _ hx h => hg (h ▸ hx))
theorem own_grown {w w' : World} {base : Nat} {e : TypeId} {size n : Nat} {v v0 : Value} {xs : List Value} (h : w.ownsRow base e size v n xs) (hg : w.grownBy w' v0.ownBlock) (hne : ∀ x, v0.ownBlock = some x → v.ownBlock ≠ some x) : w'.ownsRow base e size v n xs :=
  ownsRow_keep (S := fun x => v0.ownBlock = some x) h (Keep.grown (Keep.refl _ _) hg (fun _ hk _ => hk)) (fun x hx h => hne x h hx)
theorem own_none {w : World} {base : Nat} {e : TypeId} {size n c : Nat} {A : Option Addr} {xs : List Value} (h : w.ownsRow base e size (.slice A n c) n xs) : A = none → c = 0 := by
  intro hA
  subst hA
  rcases h.2 with ⟨h, _⟩ | ⟨g, cap, cur, hv, _⟩
  · injection h
  · injection hv with h1
    cases h1
theorem own_below {w w' : World} {base : Nat} {e : TypeId} {size n : Nat} {v : Value} {xs : List Value} (h : w.ownsRow base e size v n xs) (hb : Below w.heap.size w w') : w'.ownsRow base e size v n xs :=
  ownsRow_keep (S := fun _ => False) h (Keep.of_below hb) (fun _ _ h => h)
/-- A slice literal is a row of the caller's own. -/
theorem own_full (w : World) (cs : Array Value) (e : TypeId) (base : Nat) (hb : base ≤ w.heap.size) (hm : cs.size ≤ maxLen) : (w.alloc (.cells cs e)).ownsRow base e 1 (.slice (some ⟨w.heap.size, 0, none⟩) cs.size cs.size) cs.size cs.toList :=
  ⟨by simp, .inr ⟨w.heap.size, cs.size, cs, rfl, hb, heap_alloc_new w _, Nat.le_refl _, hm, by simp, by rw [List.take_of_length_le (by simp)]⟩⟩
end Go.Proofs.YtbkkfkbgcklkgaaGreat
/- unit.Encode and unit.Decode by their contracts. -/
namespace Go.Proofs.YtbkkfkbgcklkgaaGreat
open Go.RowKit
set_option maxHeartbeats 10000000
set_option maxRecDepth 100000

theorem byteOf_val (n : Int) : ((byteOf n).toNat : Int) = n % 256 := by
  unfold byteOf UInt8.toNat
  simp [BitVec.toNat_ofInt]
  omega
theorem word_ex {n : Int} (h : 0 ≤ n ∧ n < 4294967296) : ∃ s : BitVec 32, n = (s.toNat : Int) := ⟨BitVec.ofInt 32 n, by simp [BitVec.toNat_ofInt]; omega⟩
theorem wordBytes_nat (s : BitVec 32) : wordBytes (s.toNat : Int) = wordOf s := by unfold wordBytes; rw [ofInt_nat]
/-- The numbers of a unit are in range. -/
structure UnitM.Ok (u : UnitM) : Prop where
  code : 0 ≤ u.code ∧ u.code < 4294967296
  session : 0 ≤ u.session ∧ u.session < 4294967296
  number : 0 ≤ u.number ∧ u.number < 4294967296
theorem UnitM.lawful_len {u : UnitM} (h : u.lawful = 0) : u.data.length ≤ 8 := by
  unfold UnitM.lawful at h
  split at h
  · cases h
  split at h
  · cases h
  split at h
  · cases h
  rename_i h1 _
  have h2 : dataOk u.kind u.data.length = true := by simpa using ‹¬ (!dataOk u.kind u.data.length) = true›
  unfold dataOk at h2
  split at h2
  · simp at h2; omega
  split at h2
  · simp at h2; omega
  · simp at h2; simp [h2]
theorem two_reads {w : World} {g : Nat} {t : TypeId} {a : Int} {n : Nat} (hn : n < 256) (h : Blk w g t #[Value.int .u8 (a % 256), .int .u8 (n : Int)]) : Reads w w.heap.size 1 (some ⟨g, 0, none⟩) 2 (u8c [byteOf a, byteOf n]) := by
  have hr := Reads.of_blk h (B := w.heap.size) (size := 1) (n := 2) h.lt rfl
  have e : u8c [byteOf a, byteOf n] = #[Value.int .u8 (a % 256), .int .u8 (n : Int)].toList := by
    simp only [u8c, List.map_cons, List.map_nil, byteOf_val]
    rw [show (n : Int) % 256 = n by omega]
  rw [e]
  exact hr
theorem unitEncode_any (u : UnitM) (A : Option Addr) (c B : Nat) (w : World) (ho : u.Ok) (hr : Reads w B 1 A u.data.length (u8c u.data)) (hB : B ≤ w.heap.size) :
    Calls Tryz.prog 185 #[unitVal u (.slice A u.data.length c)] w fun e w' => ∃ v, e = .returned (.tuple #[v, .int .i64 u.lawful]) ∧ w'.ownsRow w.heap.size 5 1 v u.encode.length (u8c u.encode) ∧ Below w.heap.size w w' := by
  obtain ⟨i0, hi0, hz0, hz1, hz2⟩ := info_parts byte_info
  have hlaw := fun w => unitLawful_any u A c w ho.session.1 ho.number.1
  have hlen := @UnitM.lawful_len u
  obtain ⟨code, hcode⟩ := word_ex ho.code
  obtain ⟨session, hsession⟩ := word_ex ho.session
  obtain ⟨number, hnumber⟩ := word_ex ho.number
  have henc : u.encode = if u.lawful = 0 then sealM (([byteOf u.kind] ++ wordOf code ++ wordOf session ++ wordOf number ++ [byteOf u.flags, byteOf u.data.length]) ++ u.data) else [] := by
    unfold UnitM.encode UnitM.body
    rw [hcode, hsession, hnumber, wordBytes_nat, wordBytes_nat, wordBytes_nat]
  obtain ⟨enc, he⟩ : ∃ enc, enc = u.encode := ⟨_, rfl⟩
  rw [← he]
  rw [← he] at henc
  clear he
  generalize u.lawful = law at *
  obtain ⟨kind, code', session', number', flags, data⟩ := u
  simp only at *
  subst hcode hsession hnumber
  unfold unitVal at *
  simp only at *
  have Henc := Lib.hid henc
  clear henc ho
  go_enter Tryz.func185, Tryz.ntmps185
  go_wp2_with fail
  refine (hlaw _).mono ?_
  rintro e w1 ⟨rfl, hb1⟩
  have hb1' : Below w.heap.size w w1 := ((Below.refl _ _).alloc (Nat.le_refl _) _).trans (hb1.mono (by simp))
  by_cases hl : law = 0
  · subst hl
    have hd8 := hlen rfl
    have hB1 := (Blk.new w 68 #[Value.int .i64 kind, u32v code, u32v session, u32v number, .int .i64 flags, .slice A data.length c]).below hb1 (by simp)
    clear hb1 hlen hlaw
    have hc1 : ∀ i, w1.cell? ⟨w.heap.size, i, none⟩ = (#[Value.int .i64 kind, u32v code, u32v session, u32v number, .int .i64 flags, .slice A data.length c] : Array Value)[i]? := hB1.cell
    have hr1 := hr.below (hb1'.mono hB)
    have hn1 := hb1'.size
    have hlt1 := hB1.lt
    have hBl : B ≤ w1.heap.size := by omega
    have hkind : (u8c [byteOf kind]).toArray = #[Value.int .u8 (kind % 256)] := by simp [u8c, byteOf_val]
    have hown : (w1.alloc (.cells #[Value.int .u8 (kind % 256)] 5)).ownsRow w1.heap.size 5 1 (.slice (some ⟨w1.heap.size, 0, none⟩) 1 1) 1 (u8c [byteOf kind]) := by
      have := own_full w1 #[Value.int .u8 (kind % 256)] 5 w1.heap.size (Nat.le_refl _) (by simp [maxLen])
      rw [← hkind] at this ⊢
      exact this
    have hbW : Below w.heap.size w (w1.alloc (.cells #[Value.int .u8 (kind % 256)] 5)) := hb1'.alloc hn1 _
    have hsz : w1.heap.size ≤ (w1.alloc (.cells #[Value.int .u8 (kind % 256)] 5)).heap.size := by simp
    replace hB1 := hB1.alloc (.cells #[Value.int .u8 (kind % 256)] 5)
    replace hr1 := hr1.alloc hBl (.cells #[Value.int .u8 (kind % 256)] 5)
    clear hb1' hkind hr
    go_wp2_with fail
    replace hown := own_below hown (Below.refl _ _).drew
    replace hB1 := hB1.drew
    replace hr1 := hr1.drew
    replace hbW := hbW.drew
    go_region_held3 (fun w' => w'.cell? ⟨w.heap.size, 1, none⟩ = some (u32v code) ∧ w'.cell? ⟨w.heap.size, 2, none⟩ = some (u32v session) ∧ w'.cell? ⟨w.heap.size, 3, none⟩ = some (u32v number)) (exact ⟨(hB1.cell 1).trans rfl, (hB1.cell 2).trans rfl, (hB1.cell 3).trans rfl⟩) (first
      | (go_at_call 193; refine (unitPut_any _ _ _ _ w1.heap.size _ hown hsz (by omega)).mono ?_; rintro e W ⟨v, rfl, hown2, hbe⟩; clear hown; have hown := hown2; clear hown2; obtain ⟨Av, cv, rfl⟩ := own_slice hown; replace hsz := Nat.le_trans hsz hbe.size; replace hB1 := hB1.below hbe hlt1; replace hr1 := hr1.below (hbe.mono hBl); replace hbW := hbW.trans (hbe.mono hn1); clear hbe))
    have hcW : ∀ o i, (W.alloc o).cell? ⟨w.heap.size, i, none⟩ = (#[Value.int .i64 kind, u32v code, u32v session, u32v number, .int .i64 flags, .slice A data.length c] : Array Value)[i]? := fun o i => (hB1.alloc o).cell i
    have hcW0 : ∀ i, W.cell? ⟨w.heap.size, i, none⟩ = (#[Value.int .i64 kind, u32v code, u32v session, u32v number, .int .i64 flags, .slice A data.length c] : Array Value)[i]? := hB1.cell
    have hltW := hown.lt
    have hws := hbW.size
    clear hc1
    go_wp2_with (first
      | (at_builtin; refine wpList_append_any _ rfl (.tmp 25) (.tmp 33) _ rfl w1.heap.size 5 i0 _ 1 1 Tryz.underlying41 hi0 hz0 hz1 hz2 rfl (by omega) (.slice Av 13 cv) 13 (u8c ([byteOf kind] ++ wordOf code ++ wordOf session ++ wordOf number)) rfl (hown.alloc _) (W.heap.size + 1) (some ⟨W.heap.size, 0, none⟩) 2 2 (u8c [byteOf flags, byteOf data.length]) rfl (by simpa using two_reads (by omega) (Blk.new W 5 _)) (u8c_one _) (by unfold maxLen; omega) (by omega) (by simp; omega) ?_; intro v2 w2 hown2 hg2 hat2; have hB2 := (hB1.alloc _).grown hg2 (fun h => by have := (hltW _ h).1; omega); have hc2 := hB2.cell; have hr2 := (hr1.alloc (by omega) _).grown hg2 (by simp; omega) (fun g h => by have := (hltW g h).1; omega); have hs2 := hg2.size; have hlt2 := hown2.lt; have hbW2 := (hbW.alloc hws _).grown hg2 (by simp; omega) (fun k hk => by have := (hltW k hk).1; omega); rw [← u8c_append] at hown2)
      | (at_builtin; refine wpList_append_any _ rfl (.tmp 35) (.tmp 37) _ rfl w1.heap.size 5 i0 _ 1 1 Tryz.underlying41 hi0 hz0 hz1 hz2 rfl (by omega) _ 15 _ rfl hown2 B A data.length c (u8c data) rfl hr2 (u8c_one _) (by unfold maxLen; omega) (by omega) (by simp at hs2; omega) ?_; intro v3 w3 hown3 hg3 hat3; have hbW3 := hbW2.grown hg3 (by simp at hs2; omega) (fun k hk => by have := (hlt2 k hk).1; omega); rw [← u8c_append] at hown3; obtain ⟨A3, c3, rfl⟩ := own_slice hown3))
    have hw3 := hbW3.size
    refine (crcSeal_any A3 _ c3 _ w3.heap.size w3 (fun h => ?_) (Reads.of_own hown3) (Nat.le_refl _) (by omega)).mono ?_
    · subst h
      rcases hown3.2 with ⟨hx, _⟩ | ⟨_, _, _, hx, _⟩
      · injection hx
      · injection hx with hx; cases hx
    rintro e w4 ⟨v4, rfl, hown4, hb4⟩
    go_wp2_with fail
    refine bodyPost_ret (v := .tuple #[v4, .int .i64 0]) (by simp [results, Tryz.results185, go_sem]) rfl ⟨_, rfl, ?_, hbW3.trans (hb4.mono hw3)⟩
    rw [Henc.out, if_pos trivial]
    have hlen : (sealM ([byteOf kind] ++ wordOf code ++ wordOf session ++ wordOf number ++ [byteOf flags, byteOf data.length] ++ data)).length = 15 + data.length + 4 := by
      simp [sealM, wordOf]; omega
    rw [hlen]
    exact own_base hown4 hw3
  · have g1 : (law != 0) = true := by simpa using hl
    have hnil : enc = [] := by rw [Henc.out, if_neg hl]
    subst hnil
    go_wp2_with fail
    refine bodyPost_ret (v := .tuple #[.slice none 0 0, .int .i64 law]) (by simp [results, Tryz.results185, go_sem]) rfl ⟨_, rfl, World.ownsRow_nil _ _ _ _, hb1'⟩
end Go.Proofs.YtbkkfkbgcklkgaaGreat
