/- The base of the laws, part 11: contracts and plain lemmas, no statement. -/
import Derived.Test.YtlldgfejcjnpkaaGreatBase2
import Derived.Test.YtlldgfejcjnpkaaGreatBase4
import Derived.Test.YtlldgfejcjnpkaaGreatBase7
import Derived.Test.YtlldgfejcjnpkaaGreatBase9
import Derived.Deep.RegionHeld3
set_option linter.unusedVariables false
/- What both ends need: rows, units, valves. -/
namespace Go.Proofs.YtlldgfejcjnpkaaGreat
open Go.RowKit
set_option maxHeartbeats 4000000
set_option maxRecDepth 100000

section
variable {B : Nat} {w w1 w2 w' : World} {F : Nat → Prop}
theorem grow_fb (hb : ∀ x, F x → B ≤ x ∧ x < w.heap.size) (hB : B ≤ w.heap.size) (hs : w.heap.size ≤ w'.heap.size) : ∀ x, grow F w w' x → B ≤ x ∧ x < w'.heap.size := by
  intro x hx
  rcases hx with hx | hx
  · have := hb x hx; omega
  · omega
theorem grow_grow (h1 : w.heap.size ≤ w1.heap.size) (h2 : w1.heap.size ≤ w2.heap.size) : ∀ x, grow (grow F w w1) w1 w2 x → grow F w w2 x := by
  intro x hx
  rcases hx with (hx | hx) | hx
  · exact .inl hx
  · exact .inr (by omega)
  · exact .inr (by omega)
end
theorem DiagIs.drew {w : World} {a : Nat} {F : Nat → Prop} {L : List Rec} (h : DiagIs w a L F) : DiagIs w.drew a L F := h.keep (S := fun _ => False) ((Keep.refl _ w).drew) (fun _ _ h => h) (fun _ h => h)
theorem unitEncode_at (k c s n f : Int) (data : List UInt8) (A : Option Addr) (len cap B : Nat) (w : World) (hlen : data.length = len) (hc : 0 ≤ c ∧ c < 4294967296) (hs : 0 ≤ s ∧ s < 4294967296) (hn : 0 ≤ n ∧ n < 4294967296) (hr : Reads w B 1 A len (u8c data)) (hB : B ≤ w.heap.size) :
    Calls Tryz.prog 213 #[.agg #[.int .i64 k, .int .u32 c, .int .u32 s, .int .u32 n, .int .i64 f, .slice A len cap]] w fun e w' => ∃ v er, e = .returned (.tuple #[v, .int .i64 er]) ∧ w'.ownsRow w.heap.size 5 1 v (UnitM.mk k c s n f data).encode.length (u8c (UnitM.mk k c s n f data).encode) ∧ Below w.heap.size w w' := by
  subst hlen
  refine (unitEncode_any ⟨k, c, s, n, f, data⟩ A cap B w ⟨hc, hs, hn⟩ hr hB).mono ?_
  rintro e w' ⟨v, rfl, h1, h2⟩
  exact ⟨v, _, rfl, h1, h2⟩
theorem Reads.far {w : World} {B size n : Nat} {A : Option Addr} {xs : List Value} (h : Reads w B size A n xs) {p : Addr} (hA : ∀ ad, A = some ad → ad.block ≠ p.block) (q : Value) : Reads (w.setCell p q) B size A n xs := by
  refine ⟨h.1, fun hn => ?_⟩
  obtain ⟨ad, e, hlt, hcl⟩ := h.2 hn
  refine ⟨ad, e, hlt, fun j y hy => ?_⟩
  rw [World.cell?_setCell_other _ _ _ _ (fun e2 => hA ad e (by rw [← block_of_add ad j, ← e2]))]
  exact hcl j y hy
theorem own_off {w : World} {base n c size u : Nat} {e : TypeId} {A : Option Addr} {xs : List Value} (h : w.ownsRow base e size (.slice A n c) n xs) (hu : u < base) : ∀ ad, A = some ad → ad.block ≠ u := by
  intro x hx e
  subst hx
  rcases h.2 with ⟨hy, _⟩ | ⟨g', _, _, hy, hg', _⟩
  · injection hy with hy; cases hy
  · injection hy with hy
    injection hy with hy
    subst hy
    simp at e
    omega
theorem Blk.farU {w : World} {g u : Nat} {t : TypeId} {cs : Array Value} (h : Blk w g t cs) (hne : u ≠ g) (i : Nat) (q : Value) : Blk (w.setCell ⟨u, i, none⟩ q) g t cs := h.far (fun e => hne e.symm) q
theorem valve_trip_val {V : ValveM} {code n : Int} (h : ∀ b, V.value = some b → (b.length : Int) = n) : ∀ b, (V.trip code).1.value = some b → (b.length : Int) = n := by
  intro b hb
  unfold ValveM.trip at hb
  split at hb
  · exact h b hb
  · cases hb
theorem valve_run_val {V : ValveM} {on : Bool} {n : Int} (h : ∀ b, V.value = some b → (b.length : Int) = n) : ∀ b, (V.run on).value = some b → (b.length : Int) = n := by
  intro b hb
  unfold ValveM.run at hb
  split at hb
  · exact h b hb
  · cases hb
def endVal (e : EndM) (x : Value) : Value := .agg #[.int .i64 e.state, .int .u32 e.session, .int .u32 e.number, .int .u32 e.sent, .int .i64 e.since, .int .i64 e.latched, .bool e.request, .bool e.on, x]
theorem Blk.store9 {w : World} {e0 : Nat} {t : TypeId} {b0 b1 b2 b3 b4 b5 b6 b7 b8 a0 a1 a2 a3 a4 a5 a6 a7 a8 : Value} (h : Blk w e0 t #[b0, b1, b2, b3, b4, b5, b6, b7, b8]) :
    Blk (((((((((w.setCell ⟨e0, 0, none⟩ a0).setCell ⟨e0, 1, none⟩ a1).setCell ⟨e0, 2, none⟩ a2).setCell ⟨e0, 3, none⟩ a3).setCell ⟨e0, 4, none⟩ a4).setCell ⟨e0, 5, none⟩ a5).setCell ⟨e0, 6, none⟩ a6).setCell ⟨e0, 7, none⟩ a7).setCell ⟨e0, 8, none⟩ a8) e0 t #[a0, a1, a2, a3, a4, a5, a6, a7, a8] := by
  simpa using ((((((((h.set_ 0 a0).set_ 1 a1).set_ 2 a2).set_ 3 a3).set_ 4 a4).set_ 5 a5).set_ 6 a6).set_ 7 a7).set_ 8 a8
theorem Blk.far9 {w : World} {g e0 : Nat} {t : TypeId} {cs : Array Value} {a0 a1 a2 a3 a4 a5 a6 a7 a8 : Value} (hb : Blk w g t cs) (hne : e0 ≠ g) : Blk (((((((((w.setCell ⟨e0, 0, none⟩ a0).setCell ⟨e0, 1, none⟩ a1).setCell ⟨e0, 2, none⟩ a2).setCell ⟨e0, 3, none⟩ a3).setCell ⟨e0, 4, none⟩ a4).setCell ⟨e0, 5, none⟩ a5).setCell ⟨e0, 6, none⟩ a6).setCell ⟨e0, 7, none⟩ a7).setCell ⟨e0, 8, none⟩ a8) g t cs := (((((((((hb.farU hne _ _).farU hne _ _).farU hne _ _).farU hne _ _).farU hne _ _).farU hne _ _).farU hne _ _).farU hne _ _).farU hne _ _)
theorem below9 {B : Nat} {w0 w : World} {e0 : Nat} {a0 a1 a2 a3 a4 a5 a6 a7 a8 : Value} (h : Below B w0 w) (he : B ≤ e0) : Below B w0 (((((((((w.setCell ⟨e0, 0, none⟩ a0).setCell ⟨e0, 1, none⟩ a1).setCell ⟨e0, 2, none⟩ a2).setCell ⟨e0, 3, none⟩ a3).setCell ⟨e0, 4, none⟩ a4).setCell ⟨e0, 5, none⟩ a5).setCell ⟨e0, 6, none⟩ a6).setCell ⟨e0, 7, none⟩ a7).setCell ⟨e0, 8, none⟩ a8) :=
  ((((((((h.setCell (p := ⟨e0, 0, none⟩) he _).setCell (p := ⟨e0, 1, none⟩) he _).setCell (p := ⟨e0, 2, none⟩) he _).setCell (p := ⟨e0, 3, none⟩) he _).setCell (p := ⟨e0, 4, none⟩) he _).setCell (p := ⟨e0, 5, none⟩) he _).setCell (p := ⟨e0, 6, none⟩) he _).setCell (p := ⟨e0, 7, none⟩) he _).setCell (p := ⟨e0, 8, none⟩) he _
theorem fr_trip {V : ValveM} {code : Int} (h : V.fresh = true → V.latched ≠ 0) : (V.trip code).1.fresh = true → (V.trip code).1.latched ≠ 0 := by
  unfold ValveM.trip
  split
  · exact h
  · intro h; cases h
theorem fr_run {V : ValveM} {on : Bool} (h : V.fresh = true → V.latched ≠ 0) : (V.run on).fresh = true → (V.run on).latched ≠ 0 := by
  unfold ValveM.run
  split <;> exact h
theorem fr_come (V : ValveM) : V.come.fresh = true → V.come.latched ≠ 0 := by
  unfold ValveM.come
  intro h
  simpa using h
theorem fr_take {V : ValveM} {b : List UInt8} (h : V.fresh = true → V.latched ≠ 0) : (V.take b).fresh = true → (V.take b).latched ≠ 0 := by
  unfold ValveM.take
  split <;> exact h
theorem fr_ack {V : ValveM} (h : V.fresh = true → V.latched ≠ 0) : V.ack.fresh = true → V.ack.latched ≠ 0 := by
  unfold ValveM.ack
  split
  · intro h; cases h
  · exact h
theorem numAt_ok (l : List UInt8) (i : Nat) : 0 ≤ numAt l i ∧ numAt l i < 4294967296 := by
  unfold numAt
  have := (ofWord (l.getD i 0) (l.getD (i + 1) 0) (l.getD (i + 2) 0) (l.getD (i + 3) 0)).isLt
  omega
theorem decode_ok (l : List UInt8) : (0 ≤ (decodeM l).1.session ∧ (decodeM l).1.session < 4294967296) ∧ (0 ≤ (decodeM l).1.number ∧ (decodeM l).1.number < 4294967296) ∧ (0 ≤ (decodeM l).1.code ∧ (decodeM l).1.code < 4294967296) := by
  unfold decodeM
  split
  · simp [UnitM.zero]
  split
  · simp [UnitM.zero]
  split
  · simp [UnitM.zero]
  · simp only
    generalize (if (unitOf l).lawful ≠ 43 ∧ (unitOf l).lawful ≠ 44 ∧ (l.getD 14 0).toNat ≠ (unitOf l).data.length then (45 : Int) else (unitOf l).lawful) = e
    split
    · simp [UnitM.zero]
    · exact ⟨numAt_ok l 5, numAt_ok l 9, numAt_ok l 1⟩
/-- What is decoded without a fault is lawful. -/
theorem decode_lawful (l : List UInt8) (h : (decodeM l).2 = 0) : (decodeM l).1.lawful = 0 ∧ (decodeM l).1 = unitOf l := by
  unfold decodeM at h ⊢
  split
  · rename_i h1; rw [if_pos h1] at h; cases h
  rename_i h1
  rw [if_neg h1] at h
  split
  · rename_i h2; rw [if_pos h2] at h; cases h
  rename_i h2
  rw [if_neg h2] at h
  split
  · rename_i h3; rw [if_pos h3] at h; cases h
  rename_i h3
  rw [if_neg h3] at h
  simp only at h ⊢
  obtain ⟨e, he⟩ : ∃ e, e = (if (unitOf l).lawful ≠ 43 ∧ (unitOf l).lawful ≠ 44 ∧ (l.getD 14 0).toNat ≠ (unitOf l).data.length then (45 : Int) else (unitOf l).lawful) := ⟨_, rfl⟩
  rw [← he] at h ⊢
  by_cases h4 : e = 0
  · subst h4
    simp only [ne_eq, not_true_eq_false, if_false]
    refine ⟨?_, trivial⟩
    split at he
    · cases he
    · exact he.symm
  · rw [if_pos h4] at h
    exact absurd h h4
theorem lawful_flags {u : UnitM} (h : u.lawful = 0) : 0 ≤ u.flags ∧ u.flags ≤ 15 := by
  unfold UnitM.lawful at h
  split at h
  · cases h
  split at h
  · cases h
  split at h
  · cases h
  split at h
  · cases h
  split at h
  · cases h
  split at h
  · cases h
  · rename_i h1
    simp [flagOk] at h1
    omega
theorem Reads.keepS {w w' : World} {B size n : Nat} {A : Option Addr} {xs : List Value} {S : Nat → Prop} (h : Reads w B size A n xs) (hk : Keep S w w') (hB : B ≤ w.heap.size) (hA : ∀ ad, A = some ad → ¬ S ad.block) : Reads w' B size A n xs := by
  refine ⟨h.1, fun hn => ?_⟩
  obtain ⟨ad, e, hb, hc⟩ := h.2 hn
  refine ⟨ad, e, hb, fun j u hu => ?_⟩
  rw [World.cell?_of_block (hk.block (ad.add j).block (by rw [block_of_add]; omega) (by rw [block_of_add]; exact hA ad e))]
  exact hc j u hu
theorem flag8 {f : Int} (h0 : 0 ≤ f) (h1 : f ≤ 15) : (bits .and .i64 f 8 != 0) = decide (8 ≤ f) := by
  have e : ∀ k : Fin 16, (bits .and .i64 (k.val : Int) 8 != 0) = decide (8 ≤ (k.val : Int)) := by decide +kernel
  have := e ⟨f.toNat, by omega⟩
  simp only at this
  rwa [show ((f.toNat : Nat) : Int) = f by omega] at this
theorem sign_length (p : ParM) : p.sign.length = 4 := by simp [ParM.sign, wordOf]
theorem own_cap {w : World} {base n c size : Nat} {e : TypeId} {A : Option Addr} {xs : List Value} (h : w.ownsRow base e size (.slice A n c) n xs) : n ≤ c := by
  rcases h.2 with ⟨h, h0⟩ | ⟨g, cap, cur, h, _, _, h1, _⟩
  · omega
  · injection h with _ _ h3; omega
def smallM : ParM := ⟨7, 2, 1, 10, 9⟩
theorem small_ok : smallM.Ok := ⟨by decide, by decide⟩
theorem small_lawful : smallM.lawful = true := by decide
theorem Reads.keepP {w w' : World} {B size n : Nat} {A : Option Addr} {xs : List Value} {S : Nat → Prop} (h : Reads w B size A n xs) (hk : Keep S w w') (hB : B ≤ w.heap.size) (hA : 0 < n → ∀ ad, A = some ad → ¬ S ad.block) : Reads w' B size A n xs := by
  refine ⟨h.1, fun hn => ?_⟩
  obtain ⟨ad, e, hb, hc⟩ := h.2 hn
  refine ⟨ad, e, hb, fun j u hu => ?_⟩
  rw [World.cell?_of_block (hk.block (ad.add j).block (by rw [block_of_add]; omega) (by rw [block_of_add]; exact hA hn ad e))]
  exact hc j u hu
theorem reads_nn {w : World} {B n size : Nat} {A : Option Addr} {xs : List Value} (h : Reads w B size A n xs) (e : A = none) : n = 0 := by
  rcases Nat.eq_zero_or_pos n with h0 | h0
  · exact h0
  · obtain ⟨ad, h, _⟩ := h.2 h0
    rw [e] at h
    cases h
theorem grow_lt {T : Nat → Prop} {w w' : World} (hT : ∀ x, T x → x < w.heap.size) (hs : w.heap.size ≤ w'.heap.size) : ∀ x, grow T w w' x → x < w'.heap.size := by
  intro x hx
  rcases hx with hx | hx
  · have := hT x hx; omega
  · exact hx.2
theorem flagsM_ok (v : ValveM) (hold : Bool) : 0 ≤ flagsM v hold ∧ flagsM v hold ≤ 15 := by
  unfold flagsM
  split <;> split <;> split <;> split <;> omega
end Go.Proofs.YtlldgfejcjnpkaaGreat
/- mem's memory by its contracts. -/
namespace Go.Proofs.YtlldgfejcjnpkaaGreat
open Go.RowKit
set_option maxHeartbeats 4000000
set_option maxRecDepth 100000

theorem boolLoad_any (a : Addr) (b : Bool) (w : World) (hc : w.cell? a = some (.int .u32 (if b then 1 else 0))) :
    Calls Tryz.prog 182 #[.pointer (some a)] w fun e w' => e = .returned (.bool b) ∧ w' = w := by
  have hl := run_call_load (P := Tryz.prog) Tryz.func207 (by kernel_rfl) (by kernel_rfl) (by kernel_rfl) .u32 (by kernel_rfl) hc
  cases b with
  | false =>
    simp only [Bool.false_eq_true, if_false] at hl
    go_enter Tryz.func182, Tryz.ntmps182
    go_wp2
    go_ret
    exact ⟨rfl, rfl⟩
  | true =>
    simp only [if_true] at hl
    go_enter Tryz.func182, Tryz.ntmps182
    go_wp2
    go_ret
    exact ⟨rfl, rfl⟩
theorem boolStore_any (a : Addr) (b : Bool) (x : Value) (w : World) (hc : w.cell? a = some x) (hz : w.frozen? a = false) :
    Calls Tryz.prog 161 #[.pointer (some a), .bool b] w fun e w' => e = .returned (.tuple #[]) ∧ w' = w.drew.setCell a (.int .u32 (if b then 1 else 0)) := by
  have hc' : w.drew.cell? a = some x := by go_simp
  have hz' : w.drew.frozen? a = false := by go_simp
  cases b with
  | false =>
    have hst := run_call_store (P := Tryz.prog) Tryz.func194 (by kernel_rfl) (by kernel_rfl) (by kernel_rfl) (by kernel_rfl) (k := .u32) (y := 0) hc' hz'
    go_enter Tryz.func161, Tryz.ntmps161
    go_wp2
    go_region_calls
    all_goals (go_end0; exact ⟨rfl, rfl⟩)
  | true =>
    have hst := run_call_store (P := Tryz.prog) Tryz.func194 (by kernel_rfl) (by kernel_rfl) (by kernel_rfl) (by kernel_rfl) (k := .u32) (y := 1) hc' hz'
    go_enter Tryz.func161, Tryz.ntmps161
    go_wp2
    go_region_calls
    all_goals (go_end0; exact ⟨rfl, rfl⟩)

def memCells (row : Value) (m : MemM) (wr : Int) : Array Value := #[row, .int .u32 (if m.off then 1 else 0), .bool m.armed, .int .i64 m.left, .int .i64 wr]
/-- A memory at block mb: its bytes' row. -/
structure MemAt (w : World) (mb : Nat) (m : MemM) (F : Nat → Prop) (row : Value) (wr : Int) : Prop where
  blk : Blk w mb 118 (memCells row m wr)
  bytes : w.ownsRow 0 5 1 row m.b.length (u8c m.b)
  fb : F mb
  fr : ∀ x, row.ownBlock = some x → F x
  len : m.b.length ≤ 4096
  left : 0 ≤ m.left ∧ m.left < 9223372036854775808
def MemIs (w : World) (mb : Nat) (m : MemM) (F : Nat → Prop) : Prop := ∃ row wr, MemAt w mb m F row wr
section
variable {w w' : World} {mb : Nat} {m m' : MemM} {F F' S : Nat → Prop} {row : Value} {wr wr' : Int}
theorem MemAt.keep (h : MemAt w mb m F row wr) (hk : Keep S w w') (hS : ∀ x, F x → ¬ S x) (hF : ∀ x, F x → F' x) : MemAt w' mb m F' row wr where
  blk := h.blk.keep hk (hS _ h.fb)
  bytes := ownsRow_keep h.bytes hk (fun x hx => hS _ (h.fr x hx))
  fb := hF _ h.fb
  fr := fun x hx => hF _ (h.fr x hx)
  len := h.len
  left := h.left
theorem MemIs.keep (h : MemIs w mb m F) (hk : Keep S w w') (hS : ∀ x, F x → ¬ S x) (hF : ∀ x, F x → F' x) : MemIs w' mb m F' := by
  obtain ⟨row, wr, h⟩ := h
  exact ⟨row, wr, h.keep hk hS hF⟩
theorem MemIs.below (h : MemIs w mb m F) (hb : Below w.heap.size w w') : MemIs w' mb m F := h.keep (S := fun _ => False) (Keep.of_below hb) (fun _ _ h => h) (fun _ h => h)
theorem MemIs.drewN (h : MemIs w mb m F) (k : Nat) : MemIs (w.drewN k) mb m F := h.keep (S := fun _ => False) ((Keep.refl _ w).drewN k) (fun _ _ h => h) (fun _ h => h)
/-- Behind a store into its block. -/
theorem MemAt.upd (h : MemAt w mb m F row wr) (hk : Keep (fun x => x = mb) w w') (hb : Blk w' mb 118 (memCells row m' wr')) (e : m'.b = m.b) (hl : 0 ≤ m'.left ∧ m'.left < 9223372036854775808) : MemAt w' mb m' F row wr' where
  blk := hb
  bytes := by rw [e]; exact ownsRow_keep h.bytes hk (fun x hx e => own_ne h.bytes h.blk (by decide) (e ▸ hx))
  fb := h.fb
  fr := h.fr
  len := by rw [e]; exact h.len
  left := hl
theorem MemAt.off (h : MemAt w mb m F row wr) : w.cell? ⟨mb, 1, none⟩ = some (.int .u32 (if m.off then 1 else 0)) := (h.blk.cell 1).trans rfl
end
/-- What a call on a memory leaves. -/
structure MemTo (w : World) (mb : Nat) (m : MemM) (F : Nat → Prop) (w' : World) : Prop where
  is_ : MemIs w' mb m F
  keep : Keep F w w'
  size : w'.heap.size = w.heap.size
theorem memSize_any (mb : Nat) (m : MemM) (F : Nat → Prop) (w : World) (h : MemIs w mb m F) :
    Calls Tryz.prog 93 #[.pointer (some ⟨mb, 0, none⟩)] w fun e w' => e = .returned (.int .i64 m.b.length) ∧ w' = w := by
  obtain ⟨row, wr, h⟩ := h
  obtain ⟨A, c, rfl⟩ := own_slice h.bytes
  have hc := h.blk.cell
  unfold memCells at hc
  go_enter Tryz.func93, Tryz.ntmps93
  go_wp2_with fail
  go_ret
  exact ⟨rfl, rfl⟩
theorem memOff_any (mb : Nat) (m : MemM) (F : Nat → Prop) (w : World) (h : MemIs w mb m F) :
    Calls Tryz.prog 225 #[.pointer (some ⟨mb, 0, none⟩)] w fun e w' => e = .returned (.bool m.off) ∧ w' = w := by
  obtain ⟨row, wr, h⟩ := h
  have hl := boolLoad_any ⟨mb, 1, none⟩ m.off w h.off
  go_enter Tryz.func225, Tryz.ntmps225
  go_wp2_with fail
  refine hl.mono ?_
  rintro e w1 ⟨rfl, rfl⟩
  go_wp2_with fail
  go_ret
  exact ⟨rfl, rfl⟩
theorem memArm_any (mb : Nat) (m : MemM) (F : Nat → Prop) (n : Int) (w : World) (h : MemIs w mb m F) (hn : n < 9223372036854775808) :
    Calls Tryz.prog 69 #[.pointer (some ⟨mb, 0, none⟩), .int .i64 n] w fun e w' => e = .returned (.int .i64 (m.arm n).2) ∧ MemTo w mb (m.arm n).1 F w' := by
  obtain ⟨row, wr, h⟩ := h
  have hc := h.blk.cell
  have hf := h.blk.frozen
  unfold memCells at hc
  by_cases h0 : n < 0
  · have e1 : m.arm n = (m, 2) := by unfold MemM.arm; rw [if_pos h0]
    rw [e1]
    go_enter Tryz.func69, Tryz.ntmps69
    go_wp2_with fail
    go_ret
    exact ⟨rfl, ⟨row, wr, h⟩, Keep.refl _ _, rfl⟩
  · have e1 : m.arm n = ({ m with armed := true, left := n }, 0) := by unfold MemM.arm; rw [if_neg h0]
    rw [e1]
    have h1 : MemAt ((w.setCell ⟨mb, 2, none⟩ (.bool true)).setCell ⟨mb, 3, none⟩ (.int .i64 n)) mb { m with armed := true, left := n } F row wr :=
      h.upd (((Keep.refl (fun x => x = mb) w).setCell (p := ⟨mb, 2, none⟩) (fun _ => rfl) _).setCell (p := ⟨mb, 3, none⟩) (fun _ => rfl) _) (by simpa [memCells] using (h.blk.set_ 2 (.bool true)).set_ 3 (.int .i64 n)) rfl ⟨by simp only; omega, by simp only; omega⟩
    have hk1 : Keep F w ((w.setCell ⟨mb, 2, none⟩ (.bool true)).setCell ⟨mb, 3, none⟩ (.int .i64 n)) := ((Keep.refl F w).setCell (p := ⟨mb, 2, none⟩) (fun _ => h.fb) _).setCell (p := ⟨mb, 3, none⟩) (fun _ => h.fb) _
    go_enter Tryz.func69, Tryz.ntmps69
    go_wp2_with fail
    go_ret
    exact ⟨rfl, ⟨row, wr, h1⟩, hk1, by simp [World.setCell]⟩
theorem memOn_any (mb : Nat) (m : MemM) (F : Nat → Prop) (w : World) (h : MemIs w mb m F) :
    Calls Tryz.prog 120 #[.pointer (some ⟨mb, 0, none⟩)] w fun e w' => e = .returned (.tuple #[]) ∧ MemTo w mb m.on F w' := by
  obtain ⟨row, wr, h⟩ := h
  have hc := h.blk.cell
  have hf := h.blk.frozen
  unfold memCells at hc
  have h1 : MemAt (w.setCell ⟨mb, 2, none⟩ (.bool false)) mb { m with armed := false } F row wr :=
    h.upd ((Keep.refl (fun x => x = mb) w).setCell (p := ⟨mb, 2, none⟩) (fun _ => rfl) _) (by simpa [memCells] using h.blk.set_ 2 (.bool false)) rfl h.left
  have h2 : MemAt ((w.setCell ⟨mb, 2, none⟩ (.bool false)).drew.setCell ⟨mb, 1, none⟩ (.int .u32 0)) mb m.on F row wr :=
    h1.upd ((Keep.refl (fun x => x = mb) _).drew.setCell (p := ⟨mb, 1, none⟩) (fun _ => rfl) _) (by simpa [memCells, MemM.on] using h1.blk.drew.set_ 1 (.int .u32 0)) rfl h.left
  have hk2 : Keep F w ((w.setCell ⟨mb, 2, none⟩ (.bool false)).drew.setCell ⟨mb, 1, none⟩ (.int .u32 0)) := ((Keep.refl F w).setCell (p := ⟨mb, 2, none⟩) (fun _ => h.fb) _).drew.setCell (p := ⟨mb, 1, none⟩) (fun _ => h.fb) _
  have hst := boolStore_any ⟨mb, 1, none⟩ false _ _ h1.off (h1.blk.frozen 1)
  simp only [Bool.false_eq_true, if_false] at hst
  go_enter Tryz.func120, Tryz.ntmps120
  go_wp2_with fail
  refine hst.mono ?_
  rintro e w1 ⟨rfl, rfl⟩
  go_wp2_with fail
  go_end0
  exact ⟨rfl, ⟨row, wr, h2⟩, hk2, by simp [World.setCell, World.drew]⟩
theorem memRead_any (mb : Nat) (m : MemM) (F : Nat → Prop) (i : Nat) (w : World) (h : MemIs w mb m F) (hi : i < m.b.length) :
    Calls Tryz.prog 142 #[.pointer (some ⟨mb, 0, none⟩), .int .i64 i] w fun e w' => e = .returned (.tuple #[.int .u8 (if m.off then 0 else ((m.b.getD i 0).toNat : Int)), .int .i64 (if m.off then 70 else 0)]) ∧ w' = w := by
  obtain ⟨row, wr, h⟩ := h
  obtain ⟨A, c, rfl⟩ := own_slice h.bytes
  have hlen := h.len
  have hc := h.blk.cell
  unfold memCells at hc
  have hl := boolLoad_any ⟨mb, 1, none⟩ m.off w h.off
  obtain ⟨g, rfl, hcell⟩ := own_cell1 h.bytes (by omega)
  have hv := hcell i hi
  have hgd : m.b.getD i 0 = m.b[i] := by simp [List.getD_eq_getElem?_getD, hi]
  rw [hgd]
  generalize m.b[i] = x at hv
  cases ho : m.off with
  | true =>
    rw [ho] at hl
    simp only [if_true]
    go_enter Tryz.func142, Tryz.ntmps142
    go_wp2_with fail
    refine hl.mono ?_
    rintro e w1 ⟨rfl, rfl⟩
    go_wp2_with fail
    refine bodyPost_ret (v := .tuple #[.int .u8 0, .int .i64 70]) (by simp [results, Tryz.results142, go_sem]) rfl ⟨rfl, rfl⟩
  | false =>
    rw [ho] at hl
    simp only [Bool.false_eq_true, if_false]
    clear hcell hgd
    go_enter Tryz.func142, Tryz.ntmps142
    go_wp2_with fail
    refine hl.mono ?_
    rintro e w1 ⟨rfl, rfl⟩
    go_wp2_with fail
    refine bodyPost_ret (v := .tuple #[.int .u8 (x.toNat : Int), .int .i64 0]) (by simp [results, Tryz.results142, go_sem]) rfl ⟨rfl, rfl⟩
theorem memSet {w : World} {mb g c : Nat} {m m' : MemM} {F : Nat → Prop} {wr wr' : Int} (_ : MemAt w mb m F (.slice (some ⟨g, 0, none⟩) m.b.length c) wr) (i : Nat) (x : UInt8) {W : World} (hW : MemAt W mb m' F (.slice (some ⟨g, 0, none⟩) m.b.length c) wr') (hb : m'.b = m.b) : MemAt (W.setCell ⟨g, i, none⟩ (.int .u8 (x.toNat : Int))) mb { m' with b := m'.b.set i x } F (.slice (some ⟨g, 0, none⟩) m.b.length c) wr' := by
  have hne : mb ≠ g := fun e => own_ne hW.bytes hW.blk (by decide) (by rw [e]; simp [Value.ownBlock])
  have hown := hW.bytes
  rw [hb] at hown
  have h2 := own_set1 hown i (.int .u8 (x.toNat : Int))
  exact { blk := hW.blk.far (p := ⟨g, i, none⟩) hne _, bytes := by simpa [u8c, List.map_set, hb] using h2, fb := hW.fb, fr := hW.fr, len := by simpa using hW.len, left := hW.left }
theorem memWrite_any (mb : Nat) (m : MemM) (F : Nat → Prop) (i : Nat) (x : UInt8) (w : World) (h : MemIs w mb m F) (hi : i < m.b.length) :
    Calls Tryz.prog 144 #[.pointer (some ⟨mb, 0, none⟩), .int .i64 i, .int .u8 (x.toNat : Int)] w fun e w' => e = .returned (.int .i64 (m.write i x).2) ∧ MemTo w mb (m.write i x).1 F w' := by
  obtain ⟨row, wr, h⟩ := h
  obtain ⟨A, c, rfl⟩ := own_slice h.bytes
  have hlen := h.len
  have hc := h.blk.cell
  have hf := h.blk.frozen
  unfold memCells at hc
  have hl := boolLoad_any ⟨mb, 1, none⟩ m.off w h.off
  obtain ⟨g, rfl, hcell⟩ := own_cell1 h.bytes (by omega)
  have hgv := hcell i hi
  have hgf := (own_at (k := i) h.bytes).1
  have hne : mb ≠ g := fun e => own_ne h.bytes h.blk (by decide) (by rw [e]; simp [Value.ownBlock])
  have hFg : F g := h.fr g (by simp [Value.ownBlock])
  have hil : ¬ m.b.length ≤ i := by omega
  clear hcell
  cases ho : m.off with
  | true =>
    rw [ho] at hl
    have e1 : m.write i x = (m, 70) := by unfold MemM.write; rw [if_pos ho]
    rw [e1]
    go_enter Tryz.func144, Tryz.ntmps144
    go_wp2_with fail
    refine hl.mono ?_
    rintro e w1 ⟨rfl, rfl⟩
    go_wp2_with fail
    go_ret
    exact ⟨rfl, ⟨_, wr, h⟩, Keep.refl _ _, rfl⟩
  | false =>
    rw [ho] at hl
    cases ha : m.armed with
    | true =>
      by_cases h0 : m.left = 0
      · have e1 : m.write i x = ({ m with off := true }, 70) := by unfold MemM.write; rw [if_neg (by simp [ho]), if_neg hil, if_pos (by simp [ha, h0])]
        rw [e1]
        have h1 : MemAt (w.drew.setCell ⟨mb, 1, none⟩ (.int .u32 1)) mb { m with off := true } F (.slice (some ⟨g, 0, none⟩) m.b.length c) wr :=
          h.upd ((Keep.refl (fun x => x = mb) w).drew.setCell (p := ⟨mb, 1, none⟩) (fun _ => rfl) _) (by simpa [memCells] using h.blk.drew.set_ 1 (.int .u32 1)) rfl h.left
        have hk1 : Keep F w (w.drew.setCell ⟨mb, 1, none⟩ (.int .u32 1)) := (Keep.refl F w).drew.setCell (p := ⟨mb, 1, none⟩) (fun _ => h.fb) _
        have hst := boolStore_any ⟨mb, 1, none⟩ true _ _ h.off (h.blk.frozen 1)
        simp only [if_true] at hst
        rw [ha, h0] at hc
        go_enter Tryz.func144, Tryz.ntmps144
        go_wp2_with fail
        refine hl.mono ?_
        rintro e w1 ⟨rfl, rfl⟩
        go_wp2_with fail
        refine hst.mono ?_
        rintro e w2 ⟨rfl, rfl⟩
        go_wp2_with fail
        go_ret
        exact ⟨rfl, ⟨_, wr, h1⟩, hk1, by simp [World.setCell, World.drew]⟩
      · have e1 : m.write i x = ({ m with left := m.left - 1, b := m.b.set i x, writes := m.writes + 1 }, 0) := by unfold MemM.write; rw [if_neg (by simp [ho]), if_neg hil, if_neg (by simp [h0])]; simp [ha]
        rw [e1]
        have hlf := h.left
        have hlw : IntKind.i64.wrap (m.left - 1) = m.left - 1 := IntWalk.i64_in _ (by omega)
        have g0 : (m.left == 0) = false := by simpa using h0
        have h1 : MemAt (w.setCell ⟨mb, 3, none⟩ (.int .i64 (m.left - 1))) mb { m with left := m.left - 1 } F (.slice (some ⟨g, 0, none⟩) m.b.length c) wr :=
          h.upd ((Keep.refl (fun x => x = mb) w).setCell (p := ⟨mb, 3, none⟩) (fun _ => rfl) _) (by simpa [memCells] using h.blk.set_ 3 (.int .i64 (m.left - 1))) rfl (by simp only; omega)
        have h2 := memSet h i x h1 rfl
        have h3 : MemAt (((w.setCell ⟨mb, 3, none⟩ (.int .i64 (m.left - 1))).setCell ⟨g, i, none⟩ (.int .u8 (x.toNat : Int))).setCell ⟨mb, 4, none⟩ (.int .i64 (wrap64 (wr + 1)))) mb { m with left := m.left - 1, b := m.b.set i x, writes := m.writes + 1 } F (.slice (some ⟨g, 0, none⟩) m.b.length c) (wrap64 (wr + 1)) := by
          have hz : (m.b.set i x).length = m.b.length := List.length_set
          have := MemAt.upd (m' := { m with left := m.left - 1, b := m.b.set i x, writes := m.writes + 1 }) (wr' := wrap64 (wr + 1)) h2 ((Keep.refl (fun x => x = mb) _).setCell (p := ⟨mb, 4, none⟩) (fun _ => rfl) (.int .i64 (wrap64 (wr + 1)))) (by simpa [memCells] using h2.blk.set_ 4 (.int .i64 (wrap64 (wr + 1)))) rfl (by simp only; omega)
          exact this
        have hk3 : Keep F w (((w.setCell ⟨mb, 3, none⟩ (.int .i64 (m.left - 1))).setCell ⟨g, i, none⟩ (.int .u8 (x.toNat : Int))).setCell ⟨mb, 4, none⟩ (.int .i64 (wrap64 (wr + 1)))) :=
          (((Keep.refl F w).setCell (p := ⟨mb, 3, none⟩) (fun _ => h.fb) _).setCell (p := ⟨g, i, none⟩) (fun _ => hFg) _).setCell (p := ⟨mb, 4, none⟩) (fun _ => h.fb) _
        rw [ha] at hc
        go_enter Tryz.func144, Tryz.ntmps144
        go_wp2_with fail
        refine hl.mono ?_
        rintro e w1 ⟨rfl, rfl⟩
        go_wp2_with fail
        go_ret
        exact ⟨rfl, ⟨_, _, h3⟩, hk3, by simp [World.setCell]⟩
    | false =>
      have e1 : m.write i x = ({ m with left := m.left, b := m.b.set i x, writes := m.writes + 1 }, 0) := by unfold MemM.write; rw [if_neg (by simp [ho]), if_neg hil, if_neg (by simp [ha])]; simp [ha]
      rw [e1]
      have h2 := memSet h i x h rfl
      have h3 : MemAt ((w.setCell ⟨g, i, none⟩ (.int .u8 (x.toNat : Int))).setCell ⟨mb, 4, none⟩ (.int .i64 (wrap64 (wr + 1)))) mb { m with left := m.left, b := m.b.set i x, writes := m.writes + 1 } F (.slice (some ⟨g, 0, none⟩) m.b.length c) (wrap64 (wr + 1)) := by
        have := MemAt.upd (m' := { m with left := m.left, b := m.b.set i x, writes := m.writes + 1 }) (wr' := wrap64 (wr + 1)) h2 ((Keep.refl (fun x => x = mb) _).setCell (p := ⟨mb, 4, none⟩) (fun _ => rfl) (.int .i64 (wrap64 (wr + 1)))) (by simpa [memCells] using h2.blk.set_ 4 (.int .i64 (wrap64 (wr + 1)))) rfl h.left
        exact this
      have hk3 : Keep F w ((w.setCell ⟨g, i, none⟩ (.int .u8 (x.toNat : Int))).setCell ⟨mb, 4, none⟩ (.int .i64 (wrap64 (wr + 1)))) :=
        ((Keep.refl F w).setCell (p := ⟨g, i, none⟩) (fun _ => hFg) _).setCell (p := ⟨mb, 4, none⟩) (fun _ => h.fb) _
      rw [ha] at hc
      go_enter Tryz.func144, Tryz.ntmps144
      go_wp2_with fail
      refine hl.mono ?_
      rintro e w1 ⟨rfl, rfl⟩
      go_wp2_with fail
      go_ret
      exact ⟨rfl, ⟨_, _, h3⟩, hk3, by simp [World.setCell]⟩
end Go.Proofs.YtlldgfejcjnpkaaGreat
/- A device in memory: its blocks are told apart by a colour each. -/
namespace Go.Proofs.YtlldgfejcjnpkaaGreat
open Go.RowKit
set_option maxHeartbeats 4000000
set_option maxRecDepth 100000

/-- The blocks of a colour. -/
def Of (κ : Nat → Option Nat) (t : Nat) : Nat → Prop := fun x => κ x = some t
/-- What was made between two worlds is of colour t. -/
def paint (κ : Nat → Option Nat) (t : Nat) (w w' : World) : Nat → Option Nat := fun x => if w.heap.size ≤ x then (if x < w'.heap.size then some t else none) else κ x
theorem Of.ne {κ : Nat → Option Nat} {t s x : Nat} (h : Of κ t x) (hne : t ≠ s) : ¬ Of κ s x := fun h' => hne (Option.some.inj (h.symm.trans h'))
section
variable {κ : Nat → Option Nat} {t s x B : Nat} {w w' w1 w2 : World} {F : Nat → Prop}
theorem paint_old (h : Of κ s x) (hlo : ∀ x, κ x ≠ none → B ≤ x ∧ x < w.heap.size) : Of (paint κ t w w') s x := by
  have := (hlo x (by rw [show κ x = some s from h]; simp)).2
  unfold Of paint
  rw [if_neg (by omega)]
  exact h
theorem paint_lo (hlo : ∀ x, κ x ≠ none → B ≤ x ∧ x < w.heap.size) (hB : B ≤ w.heap.size) (hs : w.heap.size ≤ w'.heap.size) : ∀ x, paint κ t w w' x ≠ none → B ≤ x ∧ x < w'.heap.size := by
  intro x hx
  unfold paint at hx
  split at hx
  · split at hx
    · omega
    · exact absurd rfl hx
  · have := hlo x hx; omega
theorem paint_new (h1 : w.heap.size ≤ x) (h2 : x < w'.heap.size) : Of (paint κ t w w') t x := by
  unfold Of paint
  rw [if_pos h1, if_pos h2]
theorem paint_sub (hF : ∀ x, κ x ≠ none → F x) : ∀ x, paint κ t w w' x ≠ none → grow F w w' x := by
  intro x hx
  unfold paint at hx
  split at hx
  · rename_i h1
    split at hx
    · rename_i h2; exact .inr ⟨h1, h2⟩
    · exact absurd rfl hx
  · exact .inl (hF x hx)
end
/-- The device's cells. -/
def devCells (m : DevM) (mb c d v g : Nat) (val : Value) : Array Value :=
  #[.int .u32 m.p.code, .int .i64 m.p.out, .int .i64 m.p.inn, .int .i64 m.p.watch, .int .u32 m.p.count, .pointer (some ⟨mb, 0, none⟩), .int .u32 m.max, .pointer (some ⟨c, 0, none⟩), .pointer (some ⟨d, 0, none⟩), .pointer (some ⟨v, 0, none⟩), .pointer (some ⟨g, 0, none⟩),
    .int .i64 m.state, .int .u32 m.session, .int .u32 m.number, .int .u32 m.sent, .int .i64 m.odd, val, .bool m.hold]
/-- A cell over the memory at mb. -/
def CellIs (w : World) (c mb : Nat) (k : CellM) : Prop := Blk w c 184 #[.pointer (some ⟨mb, 0, none⟩), .int .u32 k.max, .int .u32 k.value, .bool k.dead]
/-- Colours: 0 the device's block, 1 its dog, 2 its valve, 3 its log, 4 its value, 5 its memory, 6 its cell. -/
structure DevAt (B : Nat) (w : World) (a mb : Nat) (m : DevM) (κ : Nat → Option Nat) (c d v g : Nat) (val : Value) : Prop where
  blk : Blk w a 132 (devCells m mb c d v g val)
  dog : DogIs w d m.p.watch m.since
  valve : ValveIs w v m.valve m.p.out (Of κ 2)
  log : DiagIs w g m.log (Of κ 3)
  value : w.ownsRow 0 5 1 val m.value.length (u8c m.value)
  mem : MemIs w mb m.m (Of κ 5)
  cell : CellIs w c mb m.cell
  ka : Of κ 0 a
  kd : Of κ 1 d
  kx : ∀ x, val.ownBlock = some x → Of κ 4 x
  kc : Of κ 6 c
  lo : ∀ x, κ x ≠ none → B ≤ x ∧ x < w.heap.size
/-- A device whose blocks lie in F, from B on. -/
def DevIs (B : Nat) (w : World) (a mb : Nat) (m : DevM) (F : Nat → Prop) : Prop := (∃ κ c d v g val, DevAt B w a mb m κ c d v g val ∧ ∀ x, κ x ≠ none → F x) ∧ ∀ x, F x → B ≤ x ∧ x < w.heap.size
/-- What a call on it leaves. -/
structure DevTo (B : Nat) (w : World) (a mb : Nat) (m : DevM) (F : Nat → Prop) (w' : World) : Prop where
  is_ : DevIs B w' a mb m (grow F w w')
  keep : Keep F w w'
section
variable {B : Nat} {w w' w1 w2 : World} {a mb c d v g : Nat} {m m' m1 m2 : DevM} {κ κ' : Nat → Option Nat} {val : Value} {F F' S : Nat → Prop}
theorem DevAt.inF (h : DevAt B w a mb m κ c d v g val) {t x : Nat} (hx : Of κ t x) : B ≤ x ∧ x < w.heap.size := h.lo x (by rw [show κ x = some t from hx]; simp)
theorem DevAt.Ble (h : DevAt B w a mb m κ c d v g val) : B ≤ w.heap.size := by have := h.inF h.ka; omega
theorem DevAt.keepS (h : DevAt B w a mb m κ c d v g val) (hk : Keep S w w') (hS : ∀ x, κ x ≠ none → ¬ S x) : DevAt B w' a mb m κ c d v g val :=
  have hS' : ∀ t x, Of κ t x → ¬ S x := fun t x hx => hS x (by rw [show κ x = some t from hx]; simp)
  { blk := h.blk.keep hk (hS' _ _ h.ka)
    dog := Blk.keep h.dog hk (hS' _ _ h.kd)
    valve := h.valve.keep hk (hS' _) (fun _ h => h)
    log := h.log.keep hk (hS' _) (fun _ h => h)
    value := ownsRow_keep h.value hk (fun x hx => hS' _ _ (h.kx x hx))
    mem := h.mem.keep hk (hS' _) (fun _ h => h)
    cell := Blk.keep h.cell hk (hS' _ _ h.kc)
    ka := h.ka
    kd := h.kd
    kx := h.kx
    kc := h.kc
    lo := fun x hx => by have := h.lo x hx; have := hk.size; omega }
theorem DevAt.below (h : DevAt B w a mb m κ c d v g val) (hb : Below w.heap.size w w') : DevAt B w' a mb m κ c d v g val := h.keepS (S := fun _ => False) (Keep.of_below hb) (fun _ _ h => h)
theorem DevAt.drew (h : DevAt B w a mb m κ c d v g val) : DevAt B w.drew a mb m κ c d v g val := h.keepS (S := fun _ => False) (Keep.refl _ w).drew (fun _ _ h => h)
theorem DevAt.drewN (h : DevAt B w a mb m κ c d v g val) (n : Nat) : DevAt B (w.drewN n) a mb m κ c d v g val := h.keepS (S := fun _ => False) ((Keep.refl _ w).drewN n) (fun _ _ h => h)
/-- Behind a store into the device's own block. -/
theorem DevAt.upd (h : DevAt B w a mb m κ c d v g val) (hk : Keep (fun x => x = a) w w') (hs : w'.heap.size = w.heap.size) (hb : Blk w' a 132 (devCells m' mb c d v g val)) (e1 : m'.p = m.p) (e2 : m'.since = m.since) (e3 : m'.valve = m.valve) (e4 : m'.log = m.log) (e5 : m'.value = m.value) (e6 : m'.m = m.m) (e7 : m'.cell = m.cell) :
    DevAt B w' a mb m' κ c d v g val :=
  have hS : ∀ t x, t ≠ 0 → Of κ t x → ¬ x = a := fun t x ht hx e => (hx.ne ht) (e ▸ h.ka)
  { blk := hb
    dog := by rw [e1, e2]; exact Blk.keep h.dog hk (hS 1 _ (by decide) h.kd)
    valve := by rw [e1, e3]; exact h.valve.keep hk (fun x => hS 2 x (by decide)) (fun _ h => h)
    log := by rw [e4]; exact h.log.keep hk (fun x => hS 3 x (by decide)) (fun _ h => h)
    value := by rw [e5]; exact ownsRow_keep h.value hk (fun x hx => hS 4 x (by decide) (h.kx x hx))
    mem := by rw [e6]; exact h.mem.keep hk (fun x => hS 5 x (by decide)) (fun _ h => h)
    cell := by rw [e7]; exact Blk.keep h.cell hk (hS 6 _ (by decide) h.kc)
    ka := h.ka
    kd := h.kd
    kx := h.kx
    kc := h.kc
    lo := by rw [hs]; exact h.lo }
/-- Behind a call on a part: the other parts, in the new colours. -/
theorem DevAt.rest (h : DevAt B w a mb m κ c d v g val) (t : Nat) (hk : Keep (Of κ t) w w') :
    (t ≠ 0 → Blk w' a 132 (devCells m mb c d v g val)) ∧ (t ≠ 1 → DogIs w' d m.p.watch m.since) ∧ (t ≠ 2 → ValveIs w' v m.valve m.p.out (Of (paint κ t w w') 2)) ∧ (t ≠ 3 → DiagIs w' g m.log (Of (paint κ t w w') 3)) ∧
    (t ≠ 4 → w'.ownsRow 0 5 1 val m.value.length (u8c m.value)) ∧ (t ≠ 5 → MemIs w' mb m.m (Of (paint κ t w w') 5)) ∧ (t ≠ 6 → CellIs w' c mb m.cell) ∧
    Of (paint κ t w w') 0 a ∧ Of (paint κ t w w') 1 d ∧ (∀ x, val.ownBlock = some x → Of (paint κ t w w') 4 x) ∧ Of (paint κ t w w') 6 c ∧ ∀ x, paint κ t w w' x ≠ none → B ≤ x ∧ x < w'.heap.size :=
  ⟨fun ht => h.blk.keep hk (h.ka.ne (Ne.symm ht)), fun ht => Blk.keep h.dog hk (h.kd.ne (Ne.symm ht)), fun ht => h.valve.keep hk (fun _ hx => hx.ne (Ne.symm ht)) (fun _ hx => paint_old hx h.lo), fun ht => h.log.keep hk (fun _ hx => hx.ne (Ne.symm ht)) (fun _ hx => paint_old hx h.lo),
    fun ht => ownsRow_keep h.value hk (fun x hx => (h.kx x hx).ne (Ne.symm ht)), fun ht => h.mem.keep hk (fun _ hx => hx.ne (Ne.symm ht)) (fun _ hx => paint_old hx h.lo), fun ht => Blk.keep h.cell hk (h.kc.ne (Ne.symm ht)),
    paint_old h.ka h.lo, paint_old h.kd h.lo, fun x hx => paint_old (h.kx x hx) h.lo, paint_old h.kc h.lo, paint_lo h.lo h.Ble hk.size⟩
theorem paint_of {t : Nat} {FV : Nat → Prop} (hlo : ∀ x, κ x ≠ none → B ≤ x ∧ x < w.heap.size) (hF : ∀ x, FV x → Of κ t x ∨ (w.heap.size ≤ x ∧ x < w'.heap.size)) : ∀ x, FV x → Of (paint κ t w w') t x := fun x hx => (hF x hx).elim (fun h => paint_old h hlo) (fun h => paint_new h.1 h.2)
theorem DevAt.onValve (h : DevAt B w a mb m κ c d v g val) {V' : ValveM} {FV : Nat → Prop} (hv : ValveIs w' v V' m.p.out FV) (hk : Keep (Of κ 2) w w') (hF : ∀ x, FV x → Of κ 2 x ∨ (w.heap.size ≤ x ∧ x < w'.heap.size)) :
    DevAt B w' a mb { m with valve := V' } (paint κ 2 w w') c d v g val := by
  obtain ⟨h0, h1, _, h3, h4, h5, h6, k0, k1, k4, k6, lo⟩ := h.rest 2 hk
  exact ⟨h0 (by decide), h1 (by decide), hv.keep (S := fun _ => False) (Keep.refl _ _) (fun _ _ h => h) (paint_of h.lo hF), h3 (by decide), h4 (by decide), h5 (by decide), h6 (by decide), k0, k1, k4, k6, lo⟩
theorem DevAt.onLog (h : DevAt B w a mb m κ c d v g val) {L' : List Rec} {FL : Nat → Prop} (hl : DiagIs w' g L' FL) (hk : Keep (Of κ 3) w w') (hF : ∀ x, FL x → Of κ 3 x ∨ (w.heap.size ≤ x ∧ x < w'.heap.size)) :
    DevAt B w' a mb { m with log := L' } (paint κ 3 w w') c d v g val := by
  obtain ⟨h0, h1, h2, _, h4, h5, h6, k0, k1, k4, k6, lo⟩ := h.rest 3 hk
  exact ⟨h0 (by decide), h1 (by decide), h2 (by decide), hl.keep (S := fun _ => False) (Keep.refl _ _) (fun _ _ h => h) (paint_of h.lo hF), h4 (by decide), h5 (by decide), h6 (by decide), k0, k1, k4, k6, lo⟩
theorem DevAt.onMem (h : DevAt B w a mb m κ c d v g val) {M' : MemM} (hm : MemTo w mb M' (Of κ 5) w') : DevAt B w' a mb { m with m := M' } (paint κ 5 w w') c d v g val := by
  obtain ⟨h0, h1, h2, h3, h4, _, h6, k0, k1, k4, k6, lo⟩ := h.rest 5 hm.keep
  exact ⟨h0 (by decide), h1 (by decide), h2 (by decide), h3 (by decide), h4 (by decide), hm.is_.keep (S := fun _ => False) (Keep.refl _ _) (fun _ _ h => h) (fun x hx => paint_old hx h.lo), h6 (by decide), k0, k1, k4, k6, lo⟩
theorem DevAt.onDog (h : DevAt B w a mb m κ c d v g val) {s' : Int} (hd : DogIs w' d m.p.watch s') (hk : Keep (fun x => x = d) w w') : DevAt B w' a mb { m with since := s' } (paint κ 1 w w') c d v g val := by
  obtain ⟨h0, _, h2, h3, h4, h5, h6, k0, k1, k4, k6, lo⟩ := h.rest 1 (hk.mono (fun x _ e => e ▸ h.kd))
  exact ⟨h0 (by decide), hd, h2 (by decide), h3 (by decide), h4 (by decide), h5 (by decide), h6 (by decide), k0, k1, k4, k6, lo⟩
/-- Behind a call on the cell (and its memory). -/
theorem DevAt.onCell (h : DevAt B w a mb m κ c d v g val) {M' : MemM} {C' : CellM} (hm : MemIs w' mb M' (Of κ 5)) (hc : CellIs w' c mb C') (hk : Keep (fun x => Of κ 5 x ∨ x = c) w w') : DevAt B w' a mb { m with m := M', cell := C' } κ c d v g val :=
  have hS : ∀ t x, t ≠ 5 → t ≠ 6 → Of κ t x → ¬ (Of κ 5 x ∨ x = c) := fun t x h5 h6 hx e => e.elim (hx.ne h5) (fun e => (hx.ne h6) (e ▸ h.kc))
  { blk := h.blk.keep hk (hS 0 _ (by decide) (by decide) h.ka)
    dog := Blk.keep h.dog hk (hS 1 _ (by decide) (by decide) h.kd)
    valve := h.valve.keep hk (fun x => hS 2 x (by decide) (by decide)) (fun _ h => h)
    log := h.log.keep hk (fun x => hS 3 x (by decide) (by decide)) (fun _ h => h)
    value := ownsRow_keep h.value hk (fun x hx => hS 4 x (by decide) (by decide) (h.kx x hx))
    mem := hm
    cell := hc
    ka := h.ka
    kd := h.kd
    kx := h.kx
    kc := h.kc
    lo := fun x hx => by have := h.lo x hx; have := hk.size; omega }
theorem DevIs.of (h : DevAt B w a mb m κ c d v g val) (hF : ∀ x, κ x ≠ none → F x) (hlo : ∀ x, F x → B ≤ x ∧ x < w.heap.size) : DevIs B w a mb m F := ⟨⟨κ, c, d, v, g, val, h, hF⟩, hlo⟩
theorem DevIs.lo (h : DevIs B w a mb m F) : ∀ x, F x → B ≤ x ∧ x < w.heap.size := h.2
theorem DevIs.Fa (h : DevIs B w a mb m F) : F a := by
  obtain ⟨⟨κ, c, d, v, g, val, h, hF⟩, _⟩ := h
  exact hF a (by rw [show κ a = some 0 from h.ka]; simp)
theorem DevIs.Ble (h : DevIs B w a mb m F) : B ≤ w.heap.size := by have := h.lo a h.Fa; omega
theorem DevIs.keepS (h : DevIs B w a mb m F) (hk : Keep S w w') (hS : ∀ x, F x → ¬ S x) : DevIs B w' a mb m F := by
  obtain ⟨⟨κ, c, d, v, g, val, h, hF⟩, hlo⟩ := h
  exact ⟨⟨κ, c, d, v, g, val, h.keepS hk (fun x hx => hS x (hF x hx)), hF⟩, fun x hx => by have := hlo x hx; have := hk.size; omega⟩
theorem DevIs.below (h : DevIs B w a mb m F) (hb : Below w.heap.size w w') : DevIs B w' a mb m F := h.keepS (S := fun _ => False) (Keep.of_below hb) (fun _ _ h => h)
/-- From a device that was at w, with its blocks in F. -/
theorem DevAt.toIs (h : DevAt B w1 a mb m1 κ c d v g val) (h0 : DevIs B w a mb m F) (hF : ∀ x, κ x ≠ none → grow F w w1 x) (hk : Keep F w w1) : DevTo B w a mb m1 F w1 :=
  ⟨⟨⟨κ, c, d, v, g, val, h, hF⟩, grow_fb h0.lo h0.Ble hk.size⟩, hk⟩
theorem DevTo.refl (h : DevIs B w a mb m F) : DevTo B w a mb m F w :=
  ⟨⟨by obtain ⟨⟨κ, c, d, v, g, val, h, hF⟩, _⟩ := h; exact ⟨κ, c, d, v, g, val, h, fun x hx => .inl (hF x hx)⟩, grow_fb h.lo h.Ble (Nat.le_refl _)⟩, Keep.refl _ _⟩
theorem DevTo.trans (h0 : DevIs B w a mb m F) (h1 : DevTo B w a mb m1 F w1) (h2 : DevTo B w1 a mb m2 (grow F w w1) w2) : DevTo B w a mb m2 F w2 := by
  have s1 := h1.keep.size
  have s2 := h2.keep.size
  obtain ⟨⟨κ, c, d, v, g, val, h, hF⟩, _⟩ := h2.is_
  refine ⟨⟨⟨κ, c, d, v, g, val, h, fun x hx => grow_grow s1 s2 x (hF x hx)⟩, grow_fb h0.lo h0.Ble (by omega)⟩, h1.keep.andThen h2.keep ?_⟩
  intro x hx hg
  rcases hg with hg | hg
  · exact hg
  · omega
theorem DevTo.ofBelow (h : DevIs B w a mb m F) (hb : Below w.heap.size w w') : DevTo B w a mb m F w' := by
  have h2 := h.below hb
  obtain ⟨⟨κ, c, d, v, g, val, h1, hF⟩, _⟩ := h2
  exact h1.toIs h (fun x hx => .inl (hF x hx)) (Keep.of_below hb)
theorem DevTo.below (h0 : DevIs B w a mb m F) (h : DevTo B w a mb m1 F w1) (hb : Below w1.heap.size w1 w2) : DevTo B w a mb m1 F w2 := DevTo.trans h0 h (.ofBelow h.is_ hb)
end
end Go.Proofs.YtlldgfejcjnpkaaGreat
/- cell's cell by its contracts: read, write. -/
namespace Go.Proofs.YtlldgfejcjnpkaaGreat
open Go.RowKit
set_option maxHeartbeats 4000000
set_option maxRecDepth 100000

theorem byteOf_toNat (n : Int) : ((byteOf n).toNat : Int) = n % 256 := by
  unfold byteOf
  show ((BitVec.ofInt 8 n).toNat : Int) = n % 256
  rw [BitVec.toNat_ofInt]
  omega
theorem write_length (m : MemM) (i : Nat) (c : UInt8) : (m.write i c).1.b.length = m.b.length := by
  rcases m.write_b i c with e | e <;> rw [e]
  exact List.length_set
theorem memWrite_at (mb : Nat) (m : MemM) (F : Nat → Prop) (i : Nat) (x : UInt8) (j cv : Int) (w : World) (hj : j = (i : Int)) (hx : cv = (x.toNat : Int)) (h : MemIs w mb m F) (hi : i < m.b.length) :
    Calls Tryz.prog 144 #[.pointer (some ⟨mb, 0, none⟩), .int .i64 j, .int .u8 cv] w fun e w' => e = .returned (.int .i64 (m.write i x).2) ∧ MemTo w mb (m.write i x).1 F w' := by
  subst hj hx
  exact memWrite_any mb m F i x w h hi
theorem memRead_at (mb : Nat) (m : MemM) (F : Nat → Prop) (i : Nat) (j : Int) (w : World) (hj : j = (i : Int)) (h : MemIs w mb m F) (ho : m.off = false) (hi : i < m.b.length) :
    Calls Tryz.prog 142 #[.pointer (some ⟨mb, 0, none⟩), .int .i64 j] w fun e w' => e = .returned (.tuple #[.int .u8 ((m.b.getD i 0).toNat : Int), .int .i64 0]) ∧ w' = w := by
  subst hj
  have := memRead_any mb m F i w h hi
  rw [ho] at this
  simpa using this
/-- The first bytes of a word. -/
def wordTo (b : List UInt8) (s : Nat) : Nat → BitVec 32
  | 0 => 0
  | i + 1 => (wordTo b s i <<< 8) ||| (b.getD (s + i) 0).toBitVec.setWidth 32
theorem wordTo_step (b : List UInt8) (s i : Nat) : bits .or .u32 (((wordTo b s i).toNat : Int) * 256 % 4294967296) (((b.getD (s + i) 0).toNat : Int) % 4294967296) = ((wordTo b s (i + 1)).toNat : Int) := by
  rw [or32, up0]
  have : BitVec.ofInt 32 (((wordTo b s i).toNat : Int) * 256 % 4294967296) = wordTo b s i <<< 8 := by
    apply BitVec.eq_of_toNat_eq
    rw [BitVec.toNat_ofInt, BitVec.toNat_shiftLeft, Nat.shiftLeft_eq]
    omega
  rw [this]
  rfl
theorem shl_word (A B C D : BitVec 32) : ((((0#32 <<< 8 ||| A) <<< 8 ||| B) <<< 8 ||| C) <<< 8 ||| D) = ((A <<< 24 ||| B <<< 16) ||| C <<< 8) ||| D := by
  simp only [BitVec.shiftLeft_or_distrib, ← BitVec.shiftLeft_add, BitVec.zero_shiftLeft, BitVec.zero_or, Nat.reduceAdd]
theorem wordTo_all (m : MemM) (k : Nat) : ((wordTo m.b (5 * k + 1) 4).toNat : Int) = m.word k := by
  have e := shl_word ((m.b.getD (5 * k + 1) 0).toBitVec.setWidth 32) ((m.b.getD (5 * k + 1 + 1) 0).toBitVec.setWidth 32) ((m.b.getD (5 * k + 1 + 2) 0).toBitVec.setWidth 32) ((m.b.getD (5 * k + 1 + 3) 0).toBitVec.setWidth 32)
  rw [ofWord_or] at e
  unfold MemM.word numAt
  rw [← e]
  rfl
theorem cellRead_any (mb : Nat) (m : MemM) (F : Nat → Prop) (k : Nat) (kk : Int) (w : World) (hkk : kk = (k : Int)) (h : MemIs w mb m F) (ho : m.off = false) (hb : 10 ≤ m.b.length) (hk : k < 2) :
    Calls Tryz.prog 94 #[.pointer (some ⟨mb, 0, none⟩), .int .i64 kk] w fun e w' => e = .returned (.tuple #[.int .u8 ((m.b.getD (5 * k) 0).toNat : Int), .int .u32 (m.word k), .int .i64 0]) ∧ w' = w := by
  subst hkk
  have hw1 : IntKind.i64.wrap ((k : Int) * 5) = (k : Int) * 5 := IntWalk.i64_in _ (by omega)
  have hw2 : IntKind.i64.wrap ((k : Int) * 5 + 1) = (k : Int) * 5 + 1 := IntWalk.i64_in _ (by omega)
  have hrd := memRead_at mb m F (5 * k) ((k : Int) * 5) w (by omega) h ho (by omega)
  obtain ⟨mk, Hmk⟩ : ∃ x, Hid (x = ((m.b.getD (5 * k) 0).toNat : Int)) := ⟨_, Lib.hid rfl⟩
  rw [← Hmk.out] at hrd ⊢
  go_enter Tryz.func94, Tryz.ntmps94
  go_wp2_with fail
  refine hrd.mono ?_
  rintro e w1 ⟨rfl, rfl⟩
  go_wp2_with fail
  go_loop [8, 9, 20] (fun v8 v9 v20 => ∃ i : Nat, i ≤ 4 ∧ v8 = .int .i64 0 ∧ v9 = .int .u32 ((wordTo m.b (5 * k + 1) i).toNat : Int) ∧ v20 = .int .i64 i) (fun _ _ v20 => 4 - (intOf v20).toNat)
  case atStart => exact ⟨0, by omega, rfl, rfl, rfl⟩
  case round =>
    obtain ⟨i, hi, rfl, rfl, rfl⟩ := hrel
    by_cases hlt : i < 4
    · have hw3 : IntKind.i64.wrap ((k : Int) * 5 + 1 + (i : Int)) = (k : Int) * 5 + 1 + (i : Int) := IntWalk.i64_in _ (by omega)
      have Hs := Lib.hid (wordTo_step m.b (5 * k + 1) i)
      have hrd := memRead_at mb m F (5 * k + 1 + i) ((k : Int) * 5 + 1 + (i : Int)) w1 (by omega) h ho (by omega)
      generalize ((m.b.getD (5 * k + 1 + i) 0).toNat : Int) = c at hrd Hs
      go_wp2_with fail
      refine hrd.mono ?_
      rintro e w2 ⟨rfl, rfl⟩
      go_wp2_with fail
      go_round
      case rel => exact ⟨i + 1, by omega, rfl, by rw [← Hs.out], by go_num⟩
      case measure => simp [intOf]; omega
    · have hi4 : i = 4 := by omega
      subst hi4
      rw [wordTo_all]
      go_wp2_with fail
      refine bodyPost_ret (v := .tuple #[.int .u8 mk, .int .u32 (m.word k), .int .i64 0]) (by simp [results, Tryz.results94, go_sem]) rfl ⟨rfl, rfl⟩
theorem writeAll_cons (m : MemM) (x : Nat × UInt8) (l : List (Nat × UInt8)) : m.writeAll (x :: l) = if (m.write x.1 x.2).2 ≠ 0 then m.write x.1 x.2 else (m.write x.1 x.2).1.writeAll l := rfl
theorem slotBytes_drop (k : Nat) (x : Int) (i : Nat) (hi : i < 4) : (MemM.slotBytes k x).drop (i + 1) = (5 * k + 1 + i, byteOf (x / 2 ^ (24 - 8 * i))) :: (MemM.slotBytes k x).drop (i + 1 + 1) := by
  have hc : i = 0 ∨ i = 1 ∨ i = 2 ∨ i = 3 := by omega
  rcases hc with rfl | rfl | rfl | rfl <;> simp [MemM.slotBytes]
theorem cellWrite_any (mb : Nat) (m : MemM) (F : Nat → Prop) (k : Nat) (kk x : Int) (w : World) (hkk : kk = (k : Int)) (h : MemIs w mb m F) (hb : 10 ≤ m.b.length) (hk : k < 2) (_ : 0 ≤ x ∧ x < 4294967296) :
    Calls Tryz.prog 143 #[.pointer (some ⟨mb, 0, none⟩), .int .i64 kk, .int .u32 x] w fun e w' => e = .returned (.int .i64 (m.writeSlot k x).2) ∧ MemTo w mb (m.writeSlot k x).1 F w' := by
  subst hkk
  have hw1 : IntKind.i64.wrap ((k : Int) * 5) = (k : Int) * 5 := IntWalk.i64_in _ (by omega)
  have hw2 : IntKind.i64.wrap ((k : Int) * 5 + 1) = (k : Int) * 5 + 1 := IntWalk.i64_in _ (by omega)
  have e0 : m.writeSlot k x = if (m.write (5 * k) 0).2 ≠ 0 then m.write (5 * k) 0 else (m.write (5 * k) 0).1.writeAll ((MemM.slotBytes k x).drop 1) := rfl
  have hl0 := write_length m (5 * k) 0
  obtain ⟨q, Hq⟩ : ∃ q, Hid (q = m.writeSlot k x) := ⟨_, Lib.hid rfl⟩
  rw [← Hq.out]
  rw [← Hq.out] at e0
  have H0 := Lib.hid e0
  clear e0 Hq
  go_enter Tryz.func143, Tryz.ntmps143
  go_wp2_with fail
  refine (memWrite_at mb m F (5 * k) 0 _ _ w (by omega) rfl h (by omega)).mono ?_
  rintro e w1 ⟨rfl, t1⟩
  generalize m.write (5 * k) 0 = r at *
  obtain ⟨m1, e1⟩ := r
  simp only at *
  by_cases he : e1 = 0
  · subst he
    have Hq : Hid (q = m1.writeAll ((MemM.slotBytes k x).drop 1)) := Lib.hid (by rw [H0.out]; simp)
    clear H0
    obtain ⟨t1, k1, z1⟩ := t1
    have Hz1 := Lib.hid z1
    clear z1
    go_wp2_with fail
    go_loopw [17] (fun v17 wl => ∃ (i : Nat) (mi : MemM), i ≤ 4 ∧ v17 = .int .i64 i ∧ MemIs wl mb mi F ∧ mi.b.length = m.b.length ∧ Hid (q = mi.writeAll ((MemM.slotBytes k x).drop (i + 1))) ∧ Keep F w wl ∧ Hid (wl.heap.size = w.heap.size)) (fun v17 _ => 4 - (intOf v17).toNat)
    case atStart => exact ⟨0, m1, by omega, rfl, t1, hl0, Hq, k1, Hz1⟩
    case round =>
      obtain ⟨i, mi, hi, rfl, ti, hli, Hqi, ki, Hzi⟩ := hrel
      by_cases hlt : i < 4
      · have hw3 : IntKind.i64.wrap ((k : Int) * 5 + 1 + (i : Int)) = (k : Int) * 5 + 1 + (i : Int) := IntWalk.i64_in _ (by omega)
        have hw4 : IntKind.i64.wrap (8 * (i : Int)) = 8 * (i : Int) := IntWalk.i64_in _ (by omega)
        have hw5 : IntKind.i64.wrap (24 - 8 * (i : Int)) = 24 - 8 * (i : Int) := IntWalk.i64_in _ (by omega)
        have Hqi2 : Hid (q = if (mi.write (5 * k + 1 + i) (byteOf (x / 2 ^ (24 - 8 * i)))).2 ≠ 0 then mi.write (5 * k + 1 + i) (byteOf (x / 2 ^ (24 - 8 * i))) else (mi.write (5 * k + 1 + i) (byteOf (x / 2 ^ (24 - 8 * i)))).1.writeAll ((MemM.slotBytes k x).drop (i + 1 + 1))) := Lib.hid (by rw [Hqi.out, slotBytes_drop k x i hlt, writeAll_cons])
        have hb8 := byteOf_toNat (x / 2 ^ (24 - 8 * i))
        have hwl := write_length mi (5 * k + 1 + i) (byteOf (x / 2 ^ (24 - 8 * i)))
        have hcall := fun cv (hcv : cv = ((byteOf (x / 2 ^ (24 - 8 * i))).toNat : Int)) => memWrite_at mb mi F (5 * k + 1 + i) (byteOf (x / 2 ^ (24 - 8 * i))) ((k : Int) * 5 + 1 + (i : Int)) cv wr (by omega) hcv ti (by omega)
        rw [hb8] at hcall
        generalize mi.write (5 * k + 1 + i) (byteOf (x / 2 ^ (24 - 8 * i))) = r at *
        obtain ⟨m2, e2⟩ := r
        simp only at hcall hwl
        have Hqi3 : Hid (q = if e2 ≠ 0 then (m2, e2) else m2.writeAll ((MemM.slotBytes k x).drop (i + 1 + 1))) := Lib.hid Hqi2.out
        clear Hqi2 Hqi hb8
        go_wp2_with fail
        refine (hcall _ rfl).mono ?_
        rintro e w2 ⟨rfl, t2, k2, z2⟩
        have Hz2 := Lib.hid z2
        clear z2 hcall
        by_cases he : e2 = 0
        · subst he
          have Hq4 : Hid (q = m2.writeAll ((MemM.slotBytes k x).drop (i + 1 + 1))) := Lib.hid (by rw [Hqi3.out]; simp)
          clear Hqi3
          go_wp2_with fail
          go_round
          case rel => exact ⟨i + 1, m2, by omega, by go_num, t2, by omega, Hq4, ki.andThen k2 (fun _ _ h => h), Lib.hid (Hz2.out.trans Hzi.out)⟩
          case measure => simp [intOf]; omega
        · have Hq4 : Hid (q = (m2, e2)) := Lib.hid (by rw [Hqi3.out, if_pos he])
          have g1 : (e2 != 0) = true := by simpa using he
          clear Hqi3
          go_wp2_with fail
          go_ret
          rw [Hq4.out]
          exact ⟨rfl, t2, ki.andThen k2 (fun _ _ h => h), Hz2.out.trans Hzi.out⟩
      · have hi4 : i = 4 := by omega
        subst hi4
        have Hq4 : Hid (q = mi.write (5 * k) 0xa5) := Lib.hid (by
          rw [Hqi.out]
          show mi.writeAll [(5 * k, 0xa5)] = _
          rw [writeAll_cons]
          by_cases he : (mi.write (5 * k) 0xa5).2 = 0
          · rw [if_neg (by simpa using he)]
            exact Prod.ext rfl he.symm
          · rw [if_pos he])
        have hcall := memWrite_at mb mi F (5 * k) 0xa5 ((k : Int) * 5) 165 wr (by omega) rfl ti (by omega)
        generalize mi.write (5 * k) 0xa5 = r at *
        clear Hqi
        go_wp2_with fail
        refine hcall.mono ?_
        rintro e w2 ⟨rfl, t2, k2, z2⟩
        have Hz2 := Lib.hid z2
        clear z2
        go_wp2_with fail
        go_ret
        rw [Hq4.out]
        exact ⟨rfl, t2, ki.andThen k2 (fun _ _ h => h), Hz2.out.trans Hzi.out⟩
  · have Hq : Hid (q = (m1, e1)) := Lib.hid (by rw [H0.out]; simp [he])
    have g1 : (e1 != 0) = true := by simpa using he
    go_wp2_with fail
    go_ret
    rw [Hq.out]
    exact ⟨rfl, t1⟩
end Go.Proofs.YtlldgfejcjnpkaaGreat
