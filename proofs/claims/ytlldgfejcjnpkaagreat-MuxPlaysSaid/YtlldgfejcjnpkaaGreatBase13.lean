/- The base of the laws, part 13: contracts and plain lemmas, no statement. -/
import Derived.Test.YtlldgfejcjnpkaaGreatBase2
import Derived.Test.YtlldgfejcjnpkaaGreatBase6
import Derived.Test.YtlldgfejcjnpkaaGreatBase7
import Derived.Test.YtlldgfejcjnpkaaGreatBase11
set_option linter.unusedVariables false
/- The reference's sets (parapetref09): Lawful, Encode, Sign; what one sees (parapetref13.Same). -/
namespace Go.Proofs.YtlldgfejcjnpkaaGreat
open Go.RowKit
set_option maxHeartbeats 10000000
set_option maxRecDepth 100000

theorem r9lawful_any (p : ParM) (w : World) (ho : p.Ok) : Calls Tryz.prog 50 #[parVal p] w fun e w' => e = .returned (.bool p.lawful) ∧ Below w.heap.size w w' := by
  have hk := ho.code
  obtain ⟨code, out, inn, watch, count⟩ := p
  have hb : ∀ cs t, Below w.heap.size w (w.alloc (.cells cs t)) := fun cs t => (Below.refl _ _).alloc (Nat.le_refl _) _
  obtain ⟨law, Hlaw⟩ : ∃ b, Hid (b = (ParM.mk code out inn watch count).lawful) := ⟨_, Lib.hid rfl⟩
  rw [← Hlaw.out]
  have Hl2 : Hid (law = decide (code ≠ 0 ∧ 1 ≤ out ∧ out ≤ 8 ∧ 1 ≤ inn ∧ inn ≤ 8 ∧ 1 ≤ watch ∧ watch ≤ 1048576 ∧ 2 ≤ count)) := Lib.hid Hlaw.out
  clear Hlaw
  unfold parVal
  simp only at *
  have no : ∀ (q : Prop) [Decidable q], (law = decide q) → ¬ q → law = false := fun q _ h hn => by rw [h]; simpa using hn
  by_cases h1 : code ≤ 0
  · have hl := no _ Hl2.out (by omega)
    have hd : decide (0 < code) = false := by simp; omega
    subst hl
    go_enter Tryz.func50, Tryz.ntmps50
    go_wp2_with fail
    go_ret
    exact ⟨rfl, hb _ _⟩
  by_cases h2 : out < 1
  · have hl := no _ Hl2.out (by omega)
    subst hl
    go_enter Tryz.func50, Tryz.ntmps50
    go_wp2_with fail
    go_ret
    exact ⟨rfl, hb _ _⟩
  by_cases h3 : 8 < out
  · have hl := no _ Hl2.out (by omega)
    subst hl
    go_enter Tryz.func50, Tryz.ntmps50
    go_wp2_with fail
    go_ret
    exact ⟨rfl, hb _ _⟩
  by_cases h4 : inn < 1
  · have hl := no _ Hl2.out (by omega)
    subst hl
    go_enter Tryz.func50, Tryz.ntmps50
    go_wp2_with fail
    go_ret
    exact ⟨rfl, hb _ _⟩
  by_cases h5 : 8 < inn
  · have hl := no _ Hl2.out (by omega)
    subst hl
    go_enter Tryz.func50, Tryz.ntmps50
    go_wp2_with fail
    go_ret
    exact ⟨rfl, hb _ _⟩
  by_cases h6 : watch < 1
  · have hl := no _ Hl2.out (by omega)
    subst hl
    go_enter Tryz.func50, Tryz.ntmps50
    go_wp2_with fail
    go_ret
    exact ⟨rfl, hb _ _⟩
  by_cases h7 : 1048576 < watch
  · have hl := no _ Hl2.out (by omega)
    subst hl
    go_enter Tryz.func50, Tryz.ntmps50
    go_wp2_with fail
    go_ret
    exact ⟨rfl, hb _ _⟩
  · have hl : law = decide (2 ≤ count) := by rw [Hl2.out]; simp only [decide_eq_decide]; omega
    subst hl
    clear Hl2 no
    go_enter Tryz.func50, Tryz.ntmps50
    go_wp2_with fail
    go_ret
    exact ⟨rfl, hb _ _⟩
theorem r9encode_any (p : ParM) (w : World) (ho : p.Ok) (hl : p.lawful = true) :
    Calls Tryz.prog 90 #[parVal p] w fun e w' => ∃ v, e = .returned (.tuple #[v, .int .i64 0]) ∧ w'.ownsRow w.heap.size 5 1 v p.bytes.length (u8c p.bytes) ∧ Below w.heap.size w w' := by
  obtain ⟨i0, hi0, hz0, hz1, hz2⟩ := info_parts byte_info
  have hchk := fun w => r9lawful_any p w ho
  rw [hl] at hchk
  obtain ⟨bs, Hbs⟩ : ∃ b, Hid (b = p.bytes) := ⟨_, Lib.hid rfl⟩
  rw [← Hbs.out]
  have Hw : Hid (0 ≤ p.watch ∧ p.watch < 4294967296) := Lib.hid (by
    simp [ParM.lawful] at hl
    omega)
  obtain ⟨code, hcode⟩ := word_ex ho.code
  obtain ⟨count, hcount⟩ := word_ex ho.count
  obtain ⟨code', out, inn, watch, count'⟩ := p
  simp only at *
  subst hcode hcount
  obtain ⟨wt, hwt⟩ := word_ex Hw.out
  have Hb2 : Hid (bs = (wordOf code ++ [byteOf out, byteOf inn]) ++ wordOf wt ++ wordOf count) := Lib.hid (by
    rw [Hbs.out]
    unfold ParM.bytes
    simp only
    rw [hwt, wordBytes_nat, wordBytes_nat, wordBytes_nat])
  clear Hbs Hw hl ho
  subst hwt
  unfold parVal at *
  simp only at *
  have hwt1 : IntKind.u32.wrap (wt.toNat : Int) = (wt.toNat : Int) := by have := wt.isLt; exact IntWalk.u32_in _ (by omega)
  have hwt2 : (wt.toNat : Int) % 4294967296 = (wt.toNat : Int) := by have := wt.isLt; omega
  go_enter Tryz.func90, Tryz.ntmps90
  go_wp2_with fail
  refine (hchk _).mono ?_
  rintro e w1 ⟨rfl, hb1⟩
  have hB1 := (Blk.new w 36 #[u32v code, .int .i64 out, .int .i64 inn, .int .i64 (wt.toNat : Int), u32v count]).below hb1 (by simp)
  have hbW : Below w.heap.size w w1 := ((Below.refl _ _).alloc (Nat.le_refl _) _).trans (hb1.mono (by simp))
  have hn1 := hbW.size
  have hlt1 := hB1.lt
  have hc1 := hB1.cell
  have hc1a : ∀ o i, (w1.alloc o).cell? ⟨w.heap.size, i, none⟩ = (#[u32v code, .int .i64 out, .int .i64 inn, .int .i64 (wt.toNat : Int), u32v count] : Array Value)[i]? := fun o i => (hB1.alloc o).cell i
  have hown0 : (w1.alloc (.cells #[] 5)).ownsRow w1.heap.size 5 1 (.slice (some ⟨w1.heap.size, 0, none⟩) 0 0) 0 (u8c []) := World.ownsRow_made w1 #[] 0 (Nat.le_refl _) (by unfold maxLen; omega) rfl
  clear hb1 hchk
  go_wp2_with fail
  refine (rword_any code _).mono ?_
  rintro e w2 ⟨v2, rfl, hw2, hb2⟩
  obtain ⟨A2, c2, rfl⟩ := own_slice hw2
  replace hB1 := (hB1.alloc (.cells #[] 5)).below hb2 (hB1.alloc _).lt
  replace hbW := (hbW.alloc hbW.size (.cells #[] 5)).trans (hb2.mono (by simp; omega))
  have hown := own_below hown0 hb2
  have hsz : w1.heap.size ≤ w2.heap.size := by have := hb2.size; simp at this; omega
  have hlt2 := hown.lt
  clear hb2 hown0 hc1 hc1a
  go_wp2_with (first
    | (at_builtin; refine wpList_append_any _ rfl (.tmp 8) (.tmp 11) _ rfl w1.heap.size 5 i0 _ 1 1 Tryz.underlying22 hi0 hz0 hz1 hz2 rfl (by omega) (.slice (some ⟨w1.heap.size, 0, none⟩) 0 0) 0 (u8c []) rfl hown w2.heap.size A2 4 c2 (u8c (wordOf code)) rfl (Reads.of_own hw2) (u8c_one _) (by unfold maxLen; omega) (by omega) hsz ?_; intro v3 w3 hown3 hg3 hat3; rw [← u8c_append] at hown3; simp only [Nat.zero_add, List.nil_append] at hown3; obtain ⟨A3, c3, rfl⟩ := own_slice hown3; have hB3 := hB1.grown hg3 (fun h => by have := (hlt2 _ h).1; omega); have hc3 := hB3.cell; have hbW3 := hbW.grown hg3 hbW.size (fun g h => by have := (hlt2 g h).1; omega); have hsz3 := Nat.le_trans hsz hg3.size; have hlt3 := hown3.lt)
    | (at_builtin; refine wpList_append_any _ rfl (.tmp 13) (.tmp 20) _ rfl w1.heap.size 5 i0 _ 1 1 Tryz.underlying22 hi0 hz0 hz1 hz2 rfl (by omega) (.slice A3 4 c3) 4 (u8c (wordOf code)) rfl (hown3.alloc _) (w3.heap.size + 1) (some ⟨w3.heap.size, 0, none⟩) 2 2 (u8c [byteOf out, byteOf inn]) rfl (by simpa using byte_pair (Blk.new w3 5 _)) (u8c_one _) (by unfold maxLen; omega) (by omega) (by simp; omega) ?_; intro v4 w4 hown4 hg4 hat4; rw [← u8c_append] at hown4; simp only [Nat.reduceAdd] at hown4; obtain ⟨A4, c4, rfl⟩ := own_slice hown4; have hB4 := (hB3.alloc _).grown hg4 (fun h => by have := (hlt3 _ h).1; omega); have hc4 := hB4.cell; have hbW4 := (hbW3.alloc hbW3.size _).grown hg4 (by have := hbW3.size; simp; omega) (fun k hk => by have := (hlt3 k hk).1; omega); have hs4 := hg4.size; have hsz4 : w1.heap.size ≤ w4.heap.size := by simp at hs4; omega))
  refine (rword_any wt _).mono ?_
  rintro e w5 ⟨v5, rfl, hw5, hb5⟩
  obtain ⟨A5, c5, rfl⟩ := own_slice hw5
  have hB5 := hB4.below hb5 hB4.lt
  have hbW5 := hbW4.trans (hb5.mono hbW4.size)
  have hown5 := own_below hown4 hb5
  have hsz5 := Nat.le_trans hsz4 hb5.size
  have hlt5 := hown5.lt
  clear hc3 hc4 hs4
  go_wp2_with (at_builtin; refine wpList_append_any _ rfl (.tmp 22) (.tmp 26) _ rfl w1.heap.size 5 i0 _ 1 1 Tryz.underlying22 hi0 hz0 hz1 hz2 rfl (by omega) (.slice A4 6 c4) 6 (u8c (wordOf code ++ [byteOf out, byteOf inn])) rfl hown5 w5.heap.size A5 4 c5 (u8c (wordOf wt)) rfl (Reads.of_own hw5) (u8c_one _) (by unfold maxLen; omega) (by omega) hsz5 ?_; intro v6 w6 hown6 hg6 hat6; rw [← u8c_append] at hown6; simp only [Nat.reduceAdd] at hown6; obtain ⟨A6, c6, rfl⟩ := own_slice hown6; have hB6 := hB5.grown hg6 (fun h => by have := (hlt5 _ h).1; omega); have hc6 := hB6.cell; have hbW6 := hbW5.grown hg6 hbW5.size (fun g h => by have := (hlt5 g h).1; omega); have hsz6 := Nat.le_trans hsz5 hg6.size)
  refine (rword_any count _).mono ?_
  rintro e w7 ⟨v7, rfl, hw7, hb7⟩
  obtain ⟨A7, c7, rfl⟩ := own_slice hw7
  have hbW7 := hbW6.trans (hb7.mono hbW6.size)
  have hown7 := own_below hown6 hb7
  have hsz7 := Nat.le_trans hsz6 hb7.size
  have hlt7 := hown7.lt
  clear hc6
  go_wp2_with (at_builtin; refine wpList_append_any _ rfl (.tmp 28) (.tmp 31) _ rfl w1.heap.size 5 i0 _ 1 1 Tryz.underlying22 hi0 hz0 hz1 hz2 rfl (by omega) (.slice A6 10 c6) 10 (u8c (wordOf code ++ [byteOf out, byteOf inn] ++ wordOf wt)) rfl hown7 w7.heap.size A7 4 c7 (u8c (wordOf count)) rfl (Reads.of_own hw7) (u8c_one _) (by unfold maxLen; omega) (by omega) hsz7 ?_; intro v8 w8 hown8 hg8 hat8; rw [← u8c_append] at hown8; simp only [Nat.reduceAdd] at hown8; obtain ⟨A8, c8, rfl⟩ := own_slice hown8; have hbW8 := hbW7.grown hg8 hbW7.size (fun g h => by have := (hlt7 g h).1; omega))
  refine bodyPost_ret (v := .tuple #[.slice A8 14 c8, .int .i64 0]) (by simp [results, Tryz.results90, go_sem]) rfl ⟨_, rfl, ?_, hbW8⟩
  rw [Hb2.out]
  have hlen : ((wordOf code ++ [byteOf out, byteOf inn]) ++ wordOf wt ++ wordOf count).length = 14 := by simp [wordOf]
  rw [hlen]
  exact own_base hown8 hn1
theorem r9sign_any (p : ParM) (w : World) (ho : p.Ok) (hl : p.lawful = true) :
    Calls Tryz.prog 45 #[parVal p] w fun e w' => ∃ v, e = .returned v ∧ w'.ownsRow w.heap.size 5 1 v 4 (u8c p.sign) ∧ Below w.heap.size w w' := by
  have henc := fun w => r9encode_any p w ho hl
  have hs : p.sign = wordOf (crcOf 0#32 p.bytes) := rfl
  obtain ⟨bs, Hbs⟩ : ∃ b, Hid (b = p.bytes) := ⟨_, Lib.hid rfl⟩
  rw [hs]
  rw [← Hbs.out] at henc ⊢
  have hlen : bs.length = 14 := by rw [Hbs.out]; simp [ParM.bytes, wordBytes, wordOf]
  rw [hlen] at henc
  have Hlen := Lib.hid hlen
  clear hlen hl ho hs
  obtain ⟨code, out, inn, watch, count⟩ := p
  unfold parVal at *
  simp only at *
  go_enter Tryz.func45, Tryz.ntmps45
  go_wp2_with fail
  refine (henc _).mono ?_
  rintro e w1 ⟨v, rfl, hown, hb1⟩
  obtain ⟨A, c, rfl⟩ := own_slice hown
  have hb1' : Below w.heap.size w w1 := ((Below.refl _ _).alloc (Nat.le_refl _) _).trans (hb1.mono (by simp))
  go_wp2_with fail
  refine (rsum_any A 14 c bs _ w1 (Reads.of_own hown) (Nat.le_refl _) (by omega)).mono ?_
  rintro e w2 ⟨rfl, hb2⟩
  have hb2' := hb1'.trans (hb2.mono hb1'.size)
  go_wp2_with fail
  refine (rword_any _ w2).mono ?_
  rintro e w3 ⟨v3, rfl, hown3, hb3⟩
  go_wp2_with fail
  go_ret
  exact ⟨_, rfl, own_base hown3 hb2'.size, hb2'.trans (hb3.mono hb2'.size)⟩
end Go.Proofs.YtlldgfejcjnpkaaGreat
/- What a device stands at: sessions never come again, whatever is cut: plain. -/
namespace Go.Proofs.YtlldgfejcjnpkaaGreat

/-- A device over a memory in which V is the greatest word. -/
structure DInv (max V : Int) (d : DevM) : Prop where
  p : d.p = DevM.small
  mx : d.max = max
  mem : d.m.Sound V
  up : d.state ≠ 6 → d.cell = ⟨max, V, false⟩ ∧ d.m.off = false
  le : V ≤ max
  hi : max < 4294967296
  pos : 0 < max
  ses : d.state = 2 ∨ d.state = 3 ∨ d.state = 4 → d.session = V ∧ 0 < V
  ses0 : d.session = 0 ∨ d.session = V
  num : d.session = 0 → d.number = 0
  num0 : 0 ≤ d.number
  run : d.valve.running = true ↔ d.state = 4
  val : d.valve.value ≠ none → d.valve.latched = 0
theorem dinv_first {max : Int} (h0 : 0 < max) (h1 : max < 4294967296) : DInv max 0 (DevM.first max) where
  p := rfl
  mx := rfl
  mem := ⟨by show 10 ≤ (List.replicate 16 (0 : UInt8)).length; decide, .inl ⟨rfl, rfl, rfl⟩⟩
  up := fun _ => ⟨rfl, rfl⟩
  le := by omega
  hi := h1
  pos := h0
  ses := fun h => by simp [DevM.first] at h
  ses0 := .inl rfl
  num := fun _ => rfl
  num0 := by show (0 : Int) ≤ 0; omega
  run := by show false = true ↔ (1 : Int) = 4; simp
  val := fun h => absurd rfl h
/-- The session is left: the output goes off, for good. -/
theorem DInv.leave {max V : Int} {d : DevM} (h : DInv max V d) (st : Int) (hst : st = 1 ∨ st = 5) (h6 : d.state ≠ 6) : DInv max V (d.leave st) ∧ (d.leave st).valve.on = false := by
  refine ⟨⟨h.p, h.mx, h.mem, fun _ => h.up h6, h.le, h.hi, h.pos, fun hh => ?_, .inl rfl, fun _ => rfl, by show (0 : Int) ≤ 0; omega, ?_, ?_⟩, run_false_on _⟩
  · exfalso
    have : st = 2 ∨ st = 3 ∨ st = 4 := hh
    omega
  · show (d.valve.run false).running = true ↔ st = 4
    rw [run_running]
    exact ⟨fun h => (by cases h), fun h => (by omega)⟩
  · intro hv
    show (d.valve.run false).latched = 0
    rw [run_latched]
    rcases run_value d.valve false with h1 | h1
    · exact h.val (fun h0 => hv (h1.trans h0))
    · exact absurd h1 hv
theorem DInv.trip {max V : Int} {d : DevM} (h : DInv max V d) (c : Int) (hc : c ≠ 0) : DInv max V (d.trip c) ∧ (d.trip c).valve.on = false ∧ (d.trip c).state = d.state ∧ (d.trip c).session = d.session ∧ (d.trip c).number = d.number := by
  obtain ⟨t1, t2⟩ := trip_value d.valve hc
  refine ⟨⟨h.p, h.mx, h.mem, h.up, h.le, h.hi, h.pos, h.ses, h.ses0, h.num, h.num0, ?_, fun hv => absurd t1 hv⟩, off_none t1, rfl, rfl, rfl⟩
  show (d.valve.trip c).1.running = true ↔ d.state = 4
  rw [t2]
  exact h.run
/-- A life's begin. -/
theorem DInv.life6 {max V : Int} {d : DevM} (h : DInv max V d) {m : MemM} {c : CellM} (hm : m.Sound V) : DInv max V (({ d with cell := c, m := m } : DevM).life 6) where
  p := h.p
  mx := h.mx
  mem := hm
  up := fun h => absurd rfl h
  le := h.le
  hi := h.hi
  pos := h.pos
  ses := fun hh => by simp [DevM.life] at hh
  ses0 := .inl rfl
  num := fun _ => rfl
  num0 := by show (0 : Int) ≤ 0; omega
  run := by show false = true ↔ (6 : Int) = 4; simp
  val := fun h => absurd rfl h
/-- A wish is begun: another session, above all; or none, and the output is off. -/
theorem DInv.begin_ {max V : Int} {d : DevM} (h : DInv max V d) (h6 : d.state ≠ 6) :
    d.begin_.1.valve.on = false ∧ ((DInv max V d.begin_.1 ∧ d.begin_.1.session = 0) ∨ (DInv max (V + 1) d.begin_.1 ∧ d.begin_.1.session = V + 1)) := by
  obtain ⟨hc, ho⟩ := h.up h6
  have hn := h.mem.nonneg
  by_cases hV : V < max
  · have hx := next_sound h.mem ho hV h.hi
    unfold DevM.begin_
    rw [hc]
    generalize (⟨max, V, false⟩ : CellM).next d.m = r at hx ⊢
    obtain ⟨c, m, s, e⟩ := r
    simp only [Prod.mk.injEq] at hx
    rcases hx with ⟨⟨rfl, rfl⟩, rfl, a3, a4⟩ | ⟨⟨rfl, rfl⟩, a3, _⟩
    · refine ⟨run_false_on _, .inr ⟨⟨h.p, h.mx, a3, fun _ => ⟨rfl, a4⟩, by omega, h.hi, h.pos, fun _ => ⟨rfl, by omega⟩, .inr rfl, fun hh => ?_, by show (0 : Int) ≤ 0; omega, ?_, fun hv => ?_⟩, rfl⟩⟩
      · exfalso
        have : V + 1 = 0 := hh
        omega
      · show (d.valve.run false).running = true ↔ (2 : Int) = 4
        rw [run_running]
        exact ⟨fun h => (by cases h), fun h => (by omega)⟩
      · show (d.valve.run false).latched = 0
        rw [run_latched]
        rcases run_value d.valve false with h1 | h1
        · exact h.val (fun h0 => hv (h1.trans h0))
        · exact absurd h1 hv
    · exact ⟨rfl, .inl ⟨h.life6 a3, rfl⟩⟩
  · have hx : (⟨max, V, false⟩ : CellM).next d.m = (⟨max, V, false⟩, d.m, 0, 80) := by
      unfold CellM.next
      rw [ho]
      simp only [Bool.or_false, Bool.false_eq_true, if_false]
      rw [if_pos (by omega)]
    unfold DevM.begin_
    rw [hc, hx]
    have hd : ({ d with cell := ⟨max, V, false⟩, m := d.m } : DevM) = d := by rw [← hc]
    simp only [hd, if_true]
    obtain ⟨t1, _, t3, _⟩ := h.trip 80 (by decide)
    obtain ⟨l1, l2⟩ := t1.leave 5 (.inr rfl) (by rw [t3]; exact h6)
    exact ⟨l2, .inl ⟨l1, rfl⟩⟩
/-- A call that accepts nothing. -/
def Still (max V : Int) (d d' : DevM) : Prop :=
  OnK d.valve d'.valve ∧ ((DInv max V d' ∧ (d'.session = d.session ∧ d'.number = d.number ∨ d'.session = 0)) ∨ (DInv max (V + 1) d' ∧ d'.session = V + 1))
/-- A call that accepts a unit. -/
structure Took (max V : Int) (d d' : DevM) (u : UnitM) : Prop where
  inv : DInv max V d'
  pos : 0 < V
  same : d'.session = d.session
  ses : d'.session = V
  num : d.number < d'.number
  us : u.session = d'.session
  un : u.number = d'.number
  on : d'.valve.on = true → d'.valve.output 2 = u.data
theorem Still.refl {max V : Int} {d : DevM} (h : DInv max V d) : Still max V d d := ⟨.refl _, .inl ⟨h, .inl ⟨rfl, rfl⟩⟩⟩
theorem DInv.odd {max V : Int} {d : DevM} (h : DInv max V d) (o : Int) : DInv max V { d with odd := o } := ⟨h.p, h.mx, h.mem, h.up, h.le, h.hi, h.pos, h.ses, h.ses0, h.num, h.num0, h.run, h.val⟩
theorem DInv.strange {max V : Int} {d : DevM} (h : DInv max V d) (h6 : d.state ≠ 6) :
    OnK d.valve d.strange.1.valve ∧ DInv max V d.strange.1 ∧ d.strange.1.state ≠ 6 ∧ (d.strange.1.session = d.session ∧ d.strange.1.number = d.number ∨ d.strange.1.session = 0) := by
  unfold DevM.strange
  by_cases hb : d.busy = true
  · simp only [hb, Bool.not_true, Bool.false_eq_true, if_false]
    by_cases ho : d.odd + 1 < 4
    · rw [if_pos ho]
      exact ⟨.refl _, h.odd _, h6, .inl ⟨rfl, rfl⟩⟩
    · rw [if_neg ho]
      have key : DInv max V (if d.state = 4 then ({ d with odd := d.odd + 1 } : DevM).trip 131 else { d with odd := d.odd + 1 }) ∧ (if d.state = 4 then ({ d with odd := d.odd + 1 } : DevM).trip 131 else { d with odd := d.odd + 1 }).state ≠ 6 := by
        split
        · obtain ⟨t1, _, t3, _⟩ := (h.odd (d.odd + 1)).trip 131 (by decide)
          exact ⟨t1, by rw [t3]; exact h6⟩
        · exact ⟨h.odd _, h6⟩
      obtain ⟨l1, l2⟩ := key.1.leave 1 (.inl rfl) key.2
      exact ⟨.off l2, l1, by show (1 : Int) ≠ 6; omega, .inr rfl⟩
  · simp only [Bool.not_eq_true] at hb
    simp only [hb, Bool.not_false, if_true]
    exact ⟨.refl _, h, h6, .inl ⟨trivial, trivial⟩⟩
theorem DInv.odds {max V : Int} {d : DevM} (h : DInv max V d) (h6 : d.state ≠ 6) (e : Int) : Still max V d (d.odds e).1 := by
  obtain ⟨a, b, _, c⟩ := h.strange h6
  exact ⟨a, .inl ⟨b, c⟩⟩
theorem DInv.wish {max V : Int} {d : DevM} (h : DInv max V d) (h6 : d.state ≠ 6) : Still max V d d.wish.1 := by
  have fresh : ∀ {g : DevM}, DInv max V g → g.state ≠ 6 → Still max V d g.begin_.1 := fun hg h6 => by
    obtain ⟨b1, b2⟩ := hg.begin_ h6
    refine ⟨.off b1, ?_⟩
    rcases b2 with ⟨b2, b3⟩ | ⟨b2, b3⟩
    · exact .inl ⟨b2, .inr b3⟩
    · exact .inr ⟨b2, b3⟩
  unfold DevM.wish
  split
  · obtain ⟨a, b, c, e⟩ := h.strange h6
    simp only
    split
    · exact fresh b c
    · split
      · exact ⟨a, .inl ⟨b, e⟩⟩
      · exact ⟨a, .inl ⟨b, e⟩⟩
  · exact fresh h h6
theorem DInv.alive {max V : Int} {d : DevM} (h : DInv max V d) : DInv max V d.alive ∧ OnK d.valve d.alive.valve :=
  ⟨⟨h.p, h.mx, h.mem, h.up, h.le, h.hi, h.pos, h.ses, h.ses0, h.num, h.num0, h.run, h.val⟩, .same rfl rfl rfl⟩
theorem DInv.take {max V : Int} {d : DevM} (h : DInv max V d) (h6 : d.state ≠ 6) (u : UnitM) : Still max V d (d.take u).1 ∨ Took max V d (d.take u).1 u := by
  unfold DevM.take
  split
  · split
    · exact .inl (h.wish h6)
    · exact .inl (h.odds h6 _)
  split
  · rename_i hk
    split
    · exact .inl (h.odds h6 _)
    · simp only
      split
      · rename_i h2
        have h3 : DInv max V ({ d with state := 3 } : DevM) := ⟨h.p, h.mx, h.mem, fun _ => h.up h6, h.le, h.hi, h.pos, fun _ => h.ses (.inl h2), h.ses0, h.num, h.num0, by
          show d.valve.running = true ↔ (3 : Int) = 4
          rw [h.run, h2]; omega, h.val⟩
        obtain ⟨a, b⟩ := h3.alive
        exact .inl ⟨b, .inl ⟨a, .inl ⟨rfl, rfl⟩⟩⟩
      · exact .inl (.refl h)
  split
  · rename_i hk
    simp only
    split
    · rename_i h3
      have hr : d.valve.running = false := by
        cases hb : d.valve.running
        · rfl
        · have := h.run.1 hb; omega
      have hval : (d.valve.run true).value = none := by
        unfold ValveM.run
        rw [if_neg (by rw [hr]; decide)]
      have h4 : DInv max V (({ d with state := 4 } : DevM).run true) := ⟨h.p, h.mx, h.mem, fun _ => h.up h6, h.le, h.hi, h.pos, fun _ => h.ses (.inr (.inl h3)), h.ses0, h.num, h.num0, by
        show (d.valve.run true).running = true ↔ (4 : Int) = 4
        rw [run_running]; simp, fun hv => absurd hval hv⟩
      obtain ⟨a, _⟩ := h4.alive
      refine .inl ⟨.off (off_none ?_), .inl ⟨a, .inl ⟨rfl, rfl⟩⟩⟩
      exact hval
    · exact .inl (.refl h)
  split
  · rename_i hk
    obtain ⟨k1, k2, k3, k4, k5, k6⟩ := hk
    obtain ⟨s1, s2⟩ := h.ses (.inr (.inr k2))
    have hr : d.valve.running = true := h.run.2 k2
    right
    refine ⟨⟨h.p, h.mx, h.mem, fun _ => h.up h6, h.le, h.hi, h.pos, fun _ => ⟨s1, s2⟩, h.ses0, fun hh => ?_, ?_, ?_, ?_⟩, s2, rfl, s1, k4, k3, rfl, ?_⟩
    · exfalso
      have : d.session = 0 := hh
      omega
    · have := h.num0
      show (0 : Int) ≤ u.number
      omega
    · show ((d.valve.come.hold _).take u.data).running = true ↔ d.state = 4
      have : ((d.valve.come.hold (decide (8 ≤ u.flags))).take u.data).running = d.valve.running := by
        unfold ValveM.take; split <;> rfl
      rw [this]
      exact h.run
    · intro hv
      show ((d.valve.come.hold (decide (8 ≤ u.flags))).take u.data).latched = 0
      have hv : ((d.valve.come.hold (decide (8 ≤ u.flags))).take u.data).value ≠ none := hv
      unfold ValveM.take at hv ⊢
      split at hv
      · rename_i hc
        rw [if_pos hc]
        simp only [Bool.and_eq_true, beq_iff_eq] at hc
        exact hc.2
      · rename_i hc
        rw [if_neg hc]
        exact h.val hv
    · intro hon
      have hon : ((d.valve.come.hold (decide (8 ≤ u.flags))).take u.data).on = true := hon
      show ((d.valve.come.hold (decide (8 ≤ u.flags))).take u.data).output 2 = u.data
      unfold ValveM.output
      rw [if_pos hon]
      by_cases hl : d.valve.latched = 0
      · have hc : ((d.valve.come.hold (decide (8 ≤ u.flags))).running && (d.valve.come.hold (decide (8 ≤ u.flags))).latched == 0) = true := by
          simp [ValveM.hold, ValveM.come, hr, hl]
        unfold ValveM.take
        rw [if_pos hc]
        rfl
      · exfalso
        have hc : ¬ ((d.valve.come.hold (decide (8 ≤ u.flags))).running && (d.valve.come.hold (decide (8 ≤ u.flags))).latched == 0) = true := by
          simp [ValveM.hold, ValveM.come, hl]
        unfold ValveM.take at hon
        rw [if_neg hc] at hon
        have hv : d.valve.value = none := by
          cases hv : d.valve.value
          · rfl
          · exact absurd (h.val (by rw [hv]; simp)) hl
        have : (d.valve.come.hold (decide (8 ≤ u.flags))).on = false := off_none hv
        rw [this] at hon
        cases hon
  split
  · rename_i hk
    obtain ⟨k1, k2, k3, k4, k5⟩ := hk
    obtain ⟨s1, s2⟩ := h.ses (.inr (.inr k2))
    have hval : ((d.valve.come.trip 80).1.run false).value = none := by
      rcases run_value (d.valve.come.trip 80).1 false with h1 | h1
      · exact h1.trans (trip_value d.valve.come (c := 80) (by decide)).1
      · exact h1
    right
    refine ⟨⟨h.p, h.mx, h.mem, fun _ => h.up h6, h.le, h.hi, h.pos, fun hh => ?_, h.ses0, fun hh => ?_, ?_, ?_, fun hv => absurd hval hv⟩, s2, rfl, s1, k4, k3, rfl, fun hon => ?_⟩
    · exfalso
      have : (5 : Int) = 2 ∨ (5 : Int) = 3 ∨ (5 : Int) = 4 := hh
      omega
    · exfalso
      have : d.session = 0 := hh
      omega
    · have := h.num0
      show (0 : Int) ≤ u.number
      omega
    · show ((d.valve.come.trip 80).1.run false).running = true ↔ (5 : Int) = 4
      rw [run_running]
      exact ⟨fun h => (by cases h), fun h => (by omega)⟩
    · have hon : ((d.valve.come.trip 80).1.run false).on = true := hon
      rw [off_none hval] at hon
      cases hon
  · exact .inl (h.odds h6 _)
theorem DInv.withLog {max V : Int} {d : DevM} (h : DInv max V d) (l : List Rec) : DInv max V { d with log := l } := ⟨h.p, h.mx, h.mem, h.up, h.le, h.hi, h.pos, h.ses, h.ses0, h.num, h.num0, h.run, h.val⟩
theorem Still.withLog {max V : Int} {d d' : DevM} (h : Still max V d d') (l : List Rec) : Still max V d { d' with log := l } := by
  obtain ⟨a, ⟨b, c⟩ | ⟨b, c⟩⟩ := h
  · exact ⟨a, .inl ⟨b.withLog l, c⟩⟩
  · exact ⟨a, .inr ⟨b.withLog l, c⟩⟩
theorem Took.withLog {max V : Int} {d d' : DevM} {u : UnitM} (h : Took max V d d' u) (l : List Rec) : Took max V d { d' with log := l } u :=
  ⟨h.inv.withLog l, h.pos, h.same, h.ses, h.num, h.us, h.un, h.on⟩
theorem DInv.read {max V : Int} {d : DevM} (h : DInv max V d) (h6 : d.state ≠ 6) (b : List UInt8) :
    Still max V d (d.read b).1 ∨ (decodeM b).2 = 0 ∧ Took max V d (d.read b).1 (decodeM b).1 := by
  unfold DevM.read
  simp only
  split
  · exact .inl (.refl h)
  · rename_i h0
    simp only [ne_eq, Decidable.not_not] at h0
    split
    · exact .inl (.refl h)
    split
    · exact .inl (.refl h)
    · rcases h.take h6 (decodeM b).1 with a | a
      · exact .inl a
      · exact .inr ⟨h0, a⟩
/-- A frame comes: nothing is accepted, or its unit is. -/
theorem DInv.receive {max V : Int} {d : DevM} (h : DInv max V d) (b : List UInt8) :
    Still max V d (d.receive b).1 ∨ (decodeM b).2 = 0 ∧ Took max V d (d.receive b).1 (decodeM b).1 := by
  unfold DevM.receive
  split
  · exact .inl (.refl h)
  · rename_i h6
    simp only
    split
    · exact h.read h6 b
    · rcases h.read h6 b with a | ⟨a, c⟩
      · exact .inl (a.withLog _)
      · exact .inr ⟨a, c.withLog _⟩
theorem DInv.tick {max V : Int} {d : DevM} (h : DInv max V d) (n : Int) : Still max V d (d.tick n).1 := by
  unfold DevM.tick
  split
  · exact .refl h
  split
  · exact .refl h
  · simp only
    have hs : ∀ s, DInv max V ({ d with since := s } : DevM) := fun s => ⟨h.p, h.mx, h.mem, h.up, h.le, h.hi, h.pos, h.ses, h.ses0, h.num, h.num0, h.run, h.val⟩
    split
    · obtain ⟨t1, t2, _, t4, t5⟩ := (hs (ticksM d.p.watch d.since n).1).trip 100 (by decide)
      exact ⟨.off t2, .inl ⟨t1, .inl ⟨t4, t5⟩⟩⟩
    · exact ⟨.refl _, .inl ⟨hs _, .inl ⟨rfl, rfl⟩⟩⟩
theorem DInv.write {max V : Int} {d : DevM} (h : DInv max V d) (b : List UInt8) (hold : Bool) : Still max V d (d.write b hold).1 := by
  unfold DevM.write
  split
  · exact .refl h
  split
  · exact .refl h
  · exact ⟨.refl _, .inl ⟨⟨h.p, h.mx, h.mem, h.up, h.le, h.hi, h.pos, h.ses, h.ses0, h.num, h.num0, h.run, h.val⟩, .inl ⟨rfl, rfl⟩⟩⟩
theorem DInv.ack {max V : Int} {d : DevM} (h : DInv max V d) : Still max V d d.ack.1 := by
  unfold DevM.ack
  split
  · exact .refl h
  split
  · rename_i hr
    refine ⟨ack_keep _, .inl ⟨⟨h.p, h.mx, h.mem, h.up, h.le, h.hi, h.pos, h.ses, h.ses0, h.num, h.num0, ?_, fun _ => ?_⟩, .inl ⟨rfl, rfl⟩⟩⟩
    · show d.valve.ack.running = true ↔ d.state = 4
      have : d.valve.ack.running = d.valve.running := by unfold ValveM.ack; split <;> rfl
      rw [this]; exact h.run
    · show d.valve.ack.latched = 0
      unfold ValveM.ack
      rw [if_pos hr]
  · exact .refl h
theorem DInv.reset {max V : Int} {d : DevM} (h : DInv max V d) (n : Int) : Still max V d (d.reset n).1 := by
  unfold DevM.reset
  split
  · exact .refl h
  · have hS : (if 0 < n then (d.m.on.arm (n - 1)).1 else d.m.on).Sound V := by split <;> first | exact h.mem.on.arm _ | exact h.mem.on
    have hO : (if 0 < n then (d.m.on.arm (n - 1)).1 else d.m.on).off = false := by split <;> first | exact MemM.arm_off _ _ | rfl
    have hp := h.pos
    obtain ⟨a1, a2⟩ := openM_sound hS hO (max := d.max) (by rw [h.mx]; omega)
    simp only
    generalize openM (if 0 < n then (d.m.on.arm (n - 1)).1 else d.m.on) d.max = r at a1 a2 ⊢
    obtain ⟨m', c, e⟩ := r
    rcases a2 with ⟨a2, a3, _⟩ | ⟨a2, _⟩
    · obtain ⟨rfl, rfl⟩ := Prod.mk.inj a2
      refine ⟨.off rfl, .inl ⟨⟨h.p, h.mx, a1, fun _ => ⟨by rw [h.mx], a3⟩, h.le, h.hi, h.pos, fun hh => ?_, .inl rfl, fun _ => rfl, by show (0 : Int) ≤ 0; omega, ?_, fun hv => absurd rfl hv⟩, .inr rfl⟩⟩
      · exfalso
        have : (1 : Int) = 2 ∨ (1 : Int) = 3 ∨ (1 : Int) = 4 := hh
        omega
      · show false = true ↔ (1 : Int) = 4
        simp
    · obtain ⟨rfl, rfl⟩ := Prod.mk.inj a2
      exact ⟨.off rfl, .inl ⟨h.life6 (c := d.cell) a1, .inr rfl⟩⟩
theorem DInv.arm {max V : Int} {d : DevM} (h : DInv max V d) (n : Int) : Still max V d { d with m := (d.m.arm n).1 } :=
  ⟨.refl _, .inl ⟨⟨h.p, h.mx, h.mem.arm n, fun h6 => ⟨(h.up h6).1, by rw [show ({ d with m := (d.m.arm n).1 } : DevM).m = (d.m.arm n).1 from rfl, MemM.arm_off]; exact (h.up h6).2⟩, h.le, h.hi, h.pos, h.ses, h.ses0, h.num, h.num0, h.run, h.val⟩, .inl ⟨rfl, rfl⟩⟩⟩
/-- One call: nothing is accepted; or a frame's unit is. -/
theorem DInv.step {max V : Int} {d : DevM} (h : DInv max V d) (o : OpM) :
    Still max V d (stepD d o) ∨ ∃ b, frameD d o = some b ∧ (decodeM b).2 = 0 ∧ Took max V d (stepD d o) (decodeM b).1 := by
  unfold stepD
  split
  · rename_i b hb
    rcases h.receive b with a | ⟨a, c⟩
    · exact .inl a
    · exact .inr ⟨b, hb, a, c⟩
  · left
    split
    · exact h.tick _
    split
    · exact h.write _ _
    split
    · exact h.ack
    split
    · exact h.reset _
    split
    · exact h.arm _
    · exact .refl h
theorem Still.session {max V : Int} {d d' : DevM} (hd : DInv max V d) (h : Still max V d d') (he : d'.session = d.session) : d'.number = d.number := by
  have h0 := hd.mem.nonneg
  obtain ⟨_, ⟨a, b | b⟩ | ⟨a, b⟩⟩ := h
  · exact b.2
  · rw [a.num b, hd.num (he ▸ b)]
  · exfalso
    rcases hd.ses0 with c | c <;> omega
/-- The last pair that was accepted lies below all that can come. -/
structure RiseD (V s k : Int) (d : DevM) : Prop where
  lo : 0 ≤ s
  hi : s ≤ V
  num : 0 < s → d.session = s → k ≤ d.number
/-- A call that accepts: a pair above the last one, the unit's own, and its data is what is put out; another one: nothing comes on, and the last pair stays. -/
theorem rise_stepD {max V s k : Int} {d : DevM} (h : DInv max V d) (hr : RiseD V s k d) (o : OpM) :
    (∃ b, frameD d o = some b ∧ (decodeM b).2 = 0 ∧ (stepD d o).session = d.session ∧ (stepD d o).number ≠ d.number ∧ s ≤ (stepD d o).session ∧ ((stepD d o).session = s → k < (stepD d o).number) ∧
      (decodeM b).1.session = (stepD d o).session ∧ (decodeM b).1.number = (stepD d o).number ∧ ((stepD d o).valve.on = true → (stepD d o).valve.output 2 = (decodeM b).1.data) ∧
      DInv max V (stepD d o) ∧ RiseD V (stepD d o).session (stepD d o).number (stepD d o)) ∨
    (((stepD d o).session = d.session → (stepD d o).number = d.number) ∧ OnK d.valve (stepD d o).valve ∧ ∃ V', DInv max V' (stepD d o) ∧ RiseD V' s k (stepD d o)) := by
  obtain ⟨r1, r2, r3⟩ := hr
  rcases h.step o with hs | ⟨b, hb, h0, ht⟩
  · right
    refine ⟨hs.session h, hs.1, ?_⟩
    obtain ⟨_, ⟨a, c | c⟩ | ⟨a, c⟩⟩ := hs
    · exact ⟨V, a, r1, r2, fun h1 h2 => by rw [c.2]; exact r3 h1 (c.1 ▸ h2)⟩
    · exact ⟨V, a, r1, r2, fun h1 h2 => by omega⟩
    · exact ⟨V + 1, a, r1, by omega, fun h1 h2 => by omega⟩
  · left
    have hn := ht.num
    have hp := ht.pos
    have hv := ht.ses
    refine ⟨b, hb, h0, ht.same, by omega, by omega, fun e => ?_, ht.us, ht.un, ht.on, ht.inv, ⟨by omega, by omega, fun _ _ => by omega⟩⟩
    have := r3 (by omega) (ht.same ▸ e)
    omega
/-- What is on is on while it runs with nothing latched; what is off is zeros. -/
theorem DInv.sees {max V : Int} {d : DevM} (h : DInv max V d) : (d.see.on = true → d.see.state = 4 ∧ d.see.latched = 0) ∧ (d.see.on = false → d.see.out = [0, 0]) := by
  constructor
  · intro hon
    have hon : d.valve.on = true := hon
    simp only [ValveM.on, Bool.and_eq_true] at hon
    refine ⟨h.run.1 hon.1.1, h.val (fun e => ?_)⟩
    rw [e] at hon
    simp at hon
  · intro hoff
    have hoff : d.valve.on = false := hoff
    show d.valve.output d.p.out = [0, 0]
    unfold ValveM.output
    rw [hoff, h.p]
    rfl
end Go.Proofs.YtlldgfejcjnpkaaGreat
