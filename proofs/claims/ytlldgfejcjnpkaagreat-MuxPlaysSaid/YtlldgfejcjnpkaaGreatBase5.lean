/- The base of the laws, part 5: contracts and plain lemmas, no statement. -/
import Derived.Test.YtlldgfejcjnpkaaGreatBase1
import Derived.Test.YtlldgfejcjnpkaaGreatBase2
import Derived.Test.YtlldgfejcjnpkaaGreatBase4
import Derived.Test.YtlldgfejcjnpkaaGreatProg
import Derived.Defers
import Derived.Laws.LoneSync
import Derived.Laws.Pointers
import Derived.RegionCalls
set_option linter.unusedVariables false
/- Rows of the caller's own: a cell set, a block grown, another's work. No program here. -/
namespace Go.Proofs.YtlldgfejcjnpkaaGreat
open Go.RowKit
set_option maxHeartbeats 4000000
set_option maxRecDepth 100000

theorem own_set {w : World} {base : Nat} {e : TypeId} {size n c g : Nat} {xs : List Value} (h : w.ownsRow base e size (.slice (some ⟨g, 0, none⟩) n c) n xs) (k : Nat) (u : Value) :
    ∃ xs', (w.setCell ⟨g, k, none⟩ u).ownsRow base e size (.slice (some ⟨g, 0, none⟩) n c) n xs' := by
  obtain ⟨hl, h⟩ := h
  rcases h with ⟨h, _⟩ | ⟨g', cap, cur, h, hb, hg, hn, hm, hs, hx⟩
  · cases h
  · injection h with h1 h2 h3
    injection h1 with h1
    injection h1 with h1
    subst h1 h3
    refine ⟨_, ?_, .inr ⟨g, c, cur.setIfInBounds k u, rfl, hb, Blk.set_ hg k u, hn, hm, by simpa using hs, rfl⟩⟩
    rw [List.length_take, Array.length_toList, Array.size_setIfInBounds, hs]
    exact Nat.min_eq_left (Nat.mul_le_mul_right _ hn)
theorem own_set1 {w : World} {base : Nat} {e : TypeId} {n c g : Nat} {xs : List Value} (h : w.ownsRow base e 1 (.slice (some ⟨g, 0, none⟩) n c) n xs) (k : Nat) (u : Value) :
    (w.setCell ⟨g, k, none⟩ u).ownsRow base e 1 (.slice (some ⟨g, 0, none⟩) n c) n (xs.set k u) := by
  obtain ⟨hl, h⟩ := h
  rcases h with ⟨h, _⟩ | ⟨g', cap, cur, h, hb, hg, hn, hm, hs, hx⟩
  · cases h
  · injection h with h1 h2 h3
    injection h1 with h1
    injection h1 with h1
    subst h1 h3
    refine ⟨by simpa using hl, .inr ⟨g, c, cur.setIfInBounds k u, rfl, hb, Blk.set_ hg k u, hn, hm, by simpa using hs, ?_⟩⟩
    rw [Array.toList_setIfInBounds, List.take_set, hx]
theorem own_at {w : World} {base : Nat} {e : TypeId} {size n c g : Nat} {xs : List Value} {k : Nat} (h : w.ownsRow base e size (.slice (some ⟨g, 0, none⟩) n c) n xs) :
    w.frozen? ⟨g, k, none⟩ = false ∧ (k < n * size → ∃ u, w.cell? ⟨g, k, none⟩ = some u) := by
  obtain ⟨hl, h⟩ := h
  rcases h with ⟨h, _⟩ | ⟨g', cap, cur, h, hb, hg, hn, hm, hs, hx⟩
  · cases h
  · injection h with h1 h2 h3
    injection h1 with h1
    injection h1 with h1
    subst h1 h3
    refine ⟨Blk.frozen hg k, fun hk => ?_⟩
    have hk' : k < cur.size := by rw [hs]; exact Nat.lt_of_lt_of_le hk (Nat.mul_le_mul_right _ hn)
    exact ⟨cur[k], (Blk.cell hg k).trans (Array.getElem?_eq_getElem hk')⟩
theorem own_some {w : World} {base : Nat} {e : TypeId} {size n c : Nat} {A : Option Addr} {xs : List Value} (h : w.ownsRow base e size (.slice A n c) n xs) (hn : 0 < n) : ∃ g, A = some ⟨g, 0, none⟩ := by
  rcases h.2 with ⟨_, h0⟩ | ⟨g, cap, cur, hv, _⟩
  · omega
  · injection hv with h1
    exact ⟨g, h1⟩
theorem own_far {w : World} {base : Nat} {e : TypeId} {size n g : Nat} {v : Value} {xs : List Value} (h : w.ownsRow base e size v n xs) (hg : v.ownBlock ≠ some g) (k : Nat) (u : Value) : (w.setCell ⟨g, k, none⟩ u).ownsRow base e size v n xs :=
  ownsRow_keep (S := fun x => x = g) h (Keep.setCell (S := fun x => x = g) (p := ⟨g, k, none⟩) (Keep.refl _ _) (fun _ => rfl) u) (fun _ hx h => hg (h ▸ hx))
theorem own_grown {w w' : World} {base : Nat} {e : TypeId} {size n : Nat} {v v0 : Value} {xs : List Value} (h : w.ownsRow base e size v n xs) (hg : w.grownBy w' v0.ownBlock) (hne : ∀ x, v0.ownBlock = some x → v.ownBlock ≠ some x) : w'.ownsRow base e size v n xs :=
  ownsRow_keep (S := fun x => v0.ownBlock = some x) h (Keep.grown (Keep.refl _ _) hg (fun _ hk _ => hk)) (fun x hx h => hne x h hx)
theorem own_none {w : World} {base : Nat} {e : TypeId} {size n c : Nat} {A : Option Addr} {xs : List Value} (h : w.ownsRow base e size (.slice A n c) n xs) : A = none → c = 0 := by
  intro hA
  subst hA
  rcases h.2 with ⟨h, _⟩ | ⟨g, cap, cur, hv, _⟩
  · injection h
  · injection hv with h1
    cases h1
theorem own_below {w w' : World} {base : Nat} {e : TypeId} {size n : Nat} {v : Value} {xs : List Value} (h : w.ownsRow base e size v n xs) (hb : Below w.heap.size w w') : w'.ownsRow base e size v n xs :=
  ownsRow_keep (S := fun _ => False) h (Keep.of_below hb) (fun _ _ h => h)
/-- A slice literal is a row of the caller's own. -/
theorem own_full (w : World) (cs : Array Value) (e : TypeId) (base : Nat) (hb : base ≤ w.heap.size) (hm : cs.size ≤ maxLen) : (w.alloc (.cells cs e)).ownsRow base e 1 (.slice (some ⟨w.heap.size, 0, none⟩) cs.size cs.size) cs.size cs.toList :=
  ⟨by simp, .inr ⟨w.heap.size, cs.size, cs, rfl, hb, heap_alloc_new w _, Nat.le_refl _, hm, by simp, by rw [List.take_of_length_le (by simp)]⟩⟩
end Go.Proofs.YtlldgfejcjnpkaaGreat
/- sync.Once and sync.Mutex, one goroutine (after the guide's worked text on sync.Once). -/
namespace Go.Proofs.YtlldgfejcjnpkaaGreat
open Go.RowKit
set_option maxHeartbeats 4000000
set_option maxRecDepth 100000

theorem raceDisable (w : World) : (callFunc 233 #[]).run Tryz.prog w = .ok (.value (.tuple #[])) w := run_call_mark0 Tryz.func233 (by kernel_rfl) (by kernel_rfl) (by kernel_rfl) .disable (by kernel_rfl) w
theorem raceEnable (w : World) : (callFunc 235 #[]).run Tryz.prog w = .ok (.value (.tuple #[])) w := run_call_mark0 Tryz.func235 (by kernel_rfl) (by kernel_rfl) (by kernel_rfl) .enable (by kernel_rfl) w
theorem raceAcquire (a : Addr) (w : World) : (callFunc 236 #[.pointer (some a)]).run Tryz.prog w = .ok (.value (.tuple #[])) w := run_call_marked Tryz.func236 (by kernel_rfl) (by kernel_rfl) (by kernel_rfl) .acquire (by kernel_rfl) a w
theorem raceReleaseMerge (a : Addr) (w : World) : (callFunc 238 #[.pointer (some a)]).run Tryz.prog w = .ok (.value (.tuple #[])) w := run_call_marked Tryz.func238 (by kernel_rfl) (by kernel_rfl) (by kernel_rfl) .releaseMerge (by kernel_rfl) a w

theorem boolStore_deferred (a : Addr) (x : Value) (u : FrameMode) (w : World) (hc : w.cell? a = some x) (hz : w.frozen? a = false) :
    CallsD Tryz.prog 161 #[.pointer (some a), .bool true] u w fun e u' w' => u' = u ∧ (e = .returned (.tuple #[]) ∧ w' = w.drew.setCell a (.int .u32 1)) := by
  have hc' : w.drew.cell? a = some x := by go_simp
  have hz' : w.drew.frozen? a = false := by go_simp
  have hst := run_call_store (P := Tryz.prog) Tryz.func194 (by kernel_rfl) (by kernel_rfl) (by kernel_rfl) (by kernel_rfl) (k := .u32) (y := 1) hc' hz'
  go_enter_d Tryz.func161, Tryz.ntmps161
  go_wp2
  go_region_calls
  all_goals (go_end0; exact ⟨rfl, rfl⟩)
theorem unlock_deferred (a : Addr) (u : FrameMode) (w : World) (hc : w.cell? a = some (.int .i32 1)) (hz : w.frozen? a = false) :
    CallsD Tryz.prog 229 #[.pointer (some a)] u w fun e u' w' => u' = u ∧ (e = .returned (.tuple #[]) ∧ w' = w.setCell a (.int .i32 0)) := by
  have hd := raceDisable
  have he := raceEnable
  have hr := raceReleaseMerge
  have hadd := run_call_add (P := Tryz.prog) Tryz.func173 (by kernel_rfl) (by kernel_rfl) (by kernel_rfl) .i32 (by kernel_rfl) (y := -1) (s := 0) hc hz (by simp [go_sem]; rfl)
  have hcv := run_convert_to_unsafe (P := Tryz.prog) (src := 330) (dst := 237) Tryz.underlying330 Tryz.underlying237 (by kernel_rfl) hc
  go_enter_d Tryz.func229, Tryz.ntmps229
  go_wp2
  go_end0
  go_wp2
  go_end0
  exact ⟨rfl, rfl⟩
theorem lock_free (a : Addr) (w : World) (hc : w.cell? a = some (.int .i32 0)) (hz : w.frozen? a = false) :
    Calls Tryz.prog 228 #[.pointer (some a)] w fun e w' => e = .returned (.tuple #[]) ∧ w' = w.setCell a (.int .i32 1) := by
  have hd := raceDisable
  have he := raceEnable
  have ha := raceAcquire
  have hcas := run_call_cas_hit (P := Tryz.prog) Tryz.func234 (by kernel_rfl) (by kernel_rfl) (by kernel_rfl) .i32 (by kernel_rfl) (y := 1) hc hz
  have hc' : (w.setCell a (.int .i32 1)).cell? a = some (.int .i32 1) := World.cell?_setCell_same w a _ hc
  have hcv := run_convert_to_unsafe (P := Tryz.prog) (src := 330) (dst := 237) Tryz.underlying330 Tryz.underlying237 (by kernel_rfl) hc'
  go_enter Tryz.func228, Tryz.ntmps228
  go_wp2
  first | go_end0 | (simp only [Exit.inBlock, Exit.then]; refine bodyPost_ret (results_none rfl _ _ _) rfl ?_) | refine bodyPost_ret (results_none rfl _ _ _) rfl ?_
  go_wp2
  go_end0
  exact ⟨rfl, rfl⟩
/-- Do, done already: the function is not called. -/
theorem onceDo_done (a : Addr) (fv : Value) (w : World) (h0 : w.cell? a = some (.int .u32 1)) :
    Calls Tryz.prog 203 #[.pointer (some a), fv] w fun e w' => e = .returned (.tuple #[]) ∧ w' = w := by
  have hl := run_call_load (P := Tryz.prog) Tryz.func207 (by kernel_rfl) (by kernel_rfl) (by kernel_rfl) .u32 (by kernel_rfl) h0
  have hnot : ∀ (x : Bool) (w : World), (Op.unary .not (.bool x)).run Tryz.prog w = .ok (.bool (!x)) w := fun _ _ => rfl
  go_enter Tryz.func203, Tryz.ntmps203
  go_wp2
  go_end0
  exact ⟨rfl, rfl⟩
end Go.Proofs.YtlldgfejcjnpkaaGreat
/- The reference's log (parapetref12): a slice of all records in a cell of a struct. -/
namespace Go.Proofs.YtlldgfejcjnpkaaGreat
open Go.RowKit
set_option maxHeartbeats 600000
set_option maxRecDepth 100000

/-- The log in cell off of block b (whose cells are cs, of type t): all records L; F: its row's block. -/
structure LogAt (w : World) (b : Nat) (t : TypeId) (cs : Array Value) (off : Nat) (L : List Rec) (F : Nat → Prop) (A : Option Addr) (c : Nat) : Prop where
  blk : Blk w b t cs
  at_ : cs[off]? = some (.slice A L.length c)
  row : w.ownsRow 0 202 4 (.slice A L.length c) L.length (recsCells L)
  own : ∀ g, (Value.slice A L.length c).ownBlock = some g → F g
  ne : 202 ≠ t
def LogIs (w : World) (b : Nat) (t : TypeId) (cs : Array Value) (off : Nat) (L : List Rec) (F : Nat → Prop) : Prop := ∃ A c, LogAt w b t cs off L F A c

theorem LogIs.keep {w w' : World} {b : Nat} {t : TypeId} {cs cs' : Array Value} {off : Nat} {L : List Rec} {F F' S : Nat → Prop} (h : LogIs w b t cs off L F) (hk : Keep S w w') (hS : ∀ x, F x → ¬ S x) (hF : ∀ x, F x → F' x)
    (hb : Blk w' b t cs') (he : cs'[off]? = cs[off]?) : LogIs w' b t cs' off L F' := by
  obtain ⟨A, c, D⟩ := h
  exact ⟨A, c, hb, he.trans D.at_, ownsRow_keep D.row hk (fun g h => hS g (D.own g h)), fun g h => hF g (D.own g h), D.ne⟩

theorem LogAt.appended {w : World} {b : Nat} {t : TypeId} {cs : Array Value} {off : Nat} {L : List Rec} {F : Nat → Prop} {A : Option Addr} {c : Nat} (D : LogAt w b t cs off L F A c) (r : Rec) {n : Nat} (hn : L.length = n) {o : Obj} {w4 : World} {A' : Option Addr} {c' : Nat}
    (hg : (w.alloc o).drew.grownBy w4 (Value.slice A n c).ownBlock) (hown : w4.ownsRow 0 202 4 (.slice A' (n + 1) c') (n + 1) (recsCells L ++ r.cells.toList))
    (hat : (Value.slice A' (n + 1) c').ownBlock = (Value.slice A n c).ownBlock ∨ (Value.slice A' (n + 1) c').ownBlock = some (w.alloc o).drew.heap.size) :
    LogIs (w4.setCell ⟨b, off, none⟩ (.slice A' (n + 1) c')) b t (cs.setIfInBounds off (.slice A' (n + 1) c')) off (L ++ [r]) (fun x => F x ∨ (w.heap.size ≤ x ∧ x < (w4.setCell ⟨b, off, none⟩ (.slice A' (n + 1) c')).heap.size)) ∧
      Keep (fun x => F x ∨ x = b) w (w4.setCell ⟨b, off, none⟩ (.slice A' (n + 1) c')) := by
  subst hn
  have hlen : off < cs.size := by
    rcases Nat.lt_or_ge off cs.size with h | h
    · exact h
    · have := D.at_; rw [Array.getElem?_eq_none h] at this; cases this
  have hk1 : Keep F w w4 := ((Keep.refl F w).alloc o).drew.grown hg (fun k h _ => D.own k h)
  have hself : Blk w4 b t cs := (D.blk.alloc o).drew.grown hg (own_ne D.row D.blk D.ne)
  have hsz : (w4.setCell ⟨b, off, none⟩ (.slice A' (L.length + 1) c')).heap.size = w4.heap.size := by simp [World.setCell]
  have hk2 : Keep (fun k => k = b) w4 (w4.setCell ⟨b, off, none⟩ (.slice A' (L.length + 1) c')) := (Keep.refl (fun k => k = b) _).setCell (p := ⟨b, off, none⟩) (fun _ => rfl) _
  refine ⟨⟨A', c', hself.set_ off _, by simp [hlen], ?_, ?_, D.ne⟩, (hk1.mono (fun _ _ h => .inl h)).trans (hk2.mono (fun _ _ h => .inr h))⟩
  · rw [List.length_append, recsCells_append]
    refine ownsRow_keep (n := L.length + 1) (xs := recsCells L ++ recsCells [r]) ?_ hk2 ?_
    · simpa [recsCells] using hown
    · rintro g hg' rfl
      exact own_ne hown hself D.ne hg'
  · rintro g hg'
    have hg'' : (Value.slice A' (L.length + 1) c').ownBlock = some g := by
      rw [List.length_append] at hg'; exact hg'
    rw [hsz]
    rcases hat with e | e
    · rw [hg''] at e
      exact .inl (D.own g e.symm)
    · have := (hown.lt g hg'').2
      rw [hg''] at e
      obtain rfl := Option.some.inj e
      exact .inr ⟨by show w.heap.size ≤ (w.alloc o).heap.size; simp, this⟩

theorem refNote_any (b off : Nat) (t : TypeId) (cs : Array Value) (L : List Rec) (F : Nat → Prop) (code s k : Int) (w : World) (h : LogIs w b t cs off L F) (hs : L.length < 1073741823) :
    Calls Tryz.prog 59 #[.pointer (some ⟨b, off, none⟩), .int .i64 code, .int .u32 s, .int .u32 k] w fun e w' =>
      e = .returned (.int .i64 (L.length + 1)) ∧ (∃ v, LogIs w' b t (cs.setIfInBounds off v) off (L ++ [⟨L.length + 1, code, s, k⟩]) (fun x => F x ∨ (w.heap.size ≤ x ∧ x < w'.heap.size))) ∧ Keep (fun x => F x ∨ x = b) w w' := by
  obtain ⟨A, c, D⟩ := h
  have hlen : off < cs.size := by
    rcases Nat.lt_or_ge off cs.size with h | h
    · exact h
    · have := D.at_; rw [Array.getElem?_eq_none h] at this; cases this
  have hC : w.cell? ⟨b, off, none⟩ = some (.slice A L.length c) := (D.blk.cell off).trans D.at_
  have hZ := D.blk.frozen off
  have hA1 : ∀ (W : World) (o : Obj), b < W.heap.size → (W.alloc o).cell? ⟨b, off, none⟩ = W.cell? ⟨b, off, none⟩ := fun W o hlt => cellA hlt o off
  have hblt := D.blk.lt
  obtain ⟨i0, hi0, hz0, hz1, hz2⟩ := info_parts rec_info
  obtain ⟨m, hm⟩ : ∃ m, m = L.length := ⟨_, rfl⟩
  rw [← hm] at hC hs ⊢
  have hat : cs[off]? = some (.slice A m c) := by rw [hm]; exact D.at_
  have Hat := Lib.hid hat
  have Hm := Lib.hid hm
  have hrow := D.row
  rw [← hm] at hrow
  clear hm hat
  have hwr : IntKind.i64.wrap ((m : Int) + 1) = m + 1 := IntWalk.i64_in _ (by omega)
  go_enter Tryz.func59, Tryz.ntmps59
  go_wp2_with fail
  go_region_law (refine step_append_any _ rfl (.tmp 13) (.tmp 24) _ rfl 0 202 i0 _ 4 24 Tryz.underlying87 hi0 hz0 hz1 hz2 rfl (by omega) (.slice A m c) m (recsCells L) rfl (hrow.alloc _) (w.heap.size + 1) (some ⟨w.heap.size, 0, none⟩) 1 1 _ rfl (Reads.of_blk (Blk.new w _ _) (by omega) rfl) (by simp [Value.oneCell']) (by unfold maxLen; omega) (by omega) (Nat.zero_le _) ?_; intro v4 W4 hown4 hg4 hat4; obtain ⟨A4, c4, rfl⟩ := own_slice hown4; have hB4 := (D.blk.alloc (.cells #[.int .i64 (m + 1), .int .i64 code, .int .u32 s, .int .u32 k] 202)).drew.grown hg4 (own_ne hrow D.blk D.ne); have hA4 : W4.cell? ⟨b, off, none⟩ = some (.slice A m c) := (hB4.cell off).trans Hat.out; have hZ4 := hB4.frozen off)
  all_goals
    go_wp2_with fail
    go_ret
    obtain ⟨h1, h2⟩ := D.appended ⟨(m : Int) + 1, code, s, k⟩ Hm.out.symm hg4 hown4 hat4
    exact ⟨rfl, ⟨_, h1⟩, h2⟩
end Go.Proofs.YtlldgfejcjnpkaaGreat
/- A burst turned in a frame is seen by the check: plain. -/
namespace Go.Proofs.YtlldgfejcjnpkaaGreat

theorem crcZn_zero (n : Nat) : crcZn n 0#32 = 0#32 := by
  induction n with
  | zero => rfl
  | succ n ih => rw [crcZn, crcZ_zero, ih]
theorem crcByte_xor (s d : BitVec 32) (c : UInt8) : crcByte (s ^^^ d) c = crcByte s c ^^^ crcZn 8 d := by
  unfold crcByte
  have e : ∀ x : BitVec 32, s ^^^ d ^^^ x = s ^^^ x ^^^ d := fun x => by rw [BitVec.xor_assoc, BitVec.xor_comm d, ← BitVec.xor_assoc]
  rw [e, crcZn_xor]
theorem crcOf_xor (s d : BitVec 32) (l : List UInt8) : crcOf (s ^^^ d) l = crcOf s l ^^^ crcZn (8 * l.length) d := by
  induction l generalizing s d with
  | nil => rfl
  | cons c l ih =>
    show crcOf (crcByte (s ^^^ d) c) l = crcOf (crcByte s c) l ^^^ _
    rw [crcByte_xor, ih, List.length_cons, ← crcZn_add]
    congr 2
    omega
theorem crcByte_turn (s : BitVec 32) (c m : UInt8) : crcByte s (c ^^^ m) = crcByte s c ^^^ crcZn 8 (m.toBitVec.setWidth 32 <<< 24) := by
  unfold crcByte
  rw [UInt8.toBitVec_xor, BitVec.setWidth_xor, BitVec.shiftLeft_xor_distrib, ← BitVec.xor_assoc, crcZn_xor]
theorem crcOf_set (s : BitVec 32) (m : UInt8) (l : List UInt8) (i : Nat) (hi : i < l.length) : crcOf s (l.set i ((l.getD i 0) ^^^ m)) = crcOf s l ^^^ crcZn (8 + 8 * (l.length - 1 - i)) (m.toBitVec.setWidth 32 <<< 24) := by
  induction l generalizing s i with
  | nil => simp at hi
  | cons c l ih =>
    cases i with
    | zero =>
      show crcOf (crcByte s (c ^^^ m)) l = crcOf (crcByte s c) l ^^^ _
      rw [crcByte_turn, crcOf_xor, ← crcZn_add]
      congr 2
    | succ i =>
      show crcOf (crcByte s c) (l.set i ((l.getD i 0) ^^^ m)) = crcOf (crcByte s c) l ^^^ _
      rw [ih _ i (by simpa using hi)]
      congr 2
      simp
      omega
theorem turn_one (r : Nat) (hr : r < 8) : crcZn 8 ((128 >>> UInt8.ofNat r : UInt8).toBitVec.setWidth 32 <<< 24) = crcZn (39 - r) 1#32 := by
  have key : ∀ r : Fin 8, crcZn 8 ((128 >>> UInt8.ofNat r.val : UInt8).toBitVec.setWidth 32 <<< 24) = crcZn (39 - r.val) 1#32 := by decide +kernel
  exact key ⟨r, hr⟩
theorem crcOf_turnBit (b : List UInt8) (k : Nat) (hk : k < 8 * b.length) : crcOf 0#32 (turnBit b k) = crcOf 0#32 b ^^^ crcZn (31 + 8 * b.length - k) 1#32 := by
  unfold turnBit
  rw [crcOf_set _ _ _ _ (by omega), crcZn_add, turn_one _ (Nat.mod_lt _ (by omega)), ← crcZn_add]
  congr 2
  omega
theorem turnBit_length (b : List UInt8) (k : Nat) : (turnBit b k).length = b.length := by simp [turnBit]
theorem turnTo_len (word : Int) (size frm : Nat) (b : List UInt8) (k : Nat) : (turnTo word size frm b k).length = b.length := by
  induction k with
  | zero => rfl
  | succ k ih => unfold turnTo; split <;> simp [turnBit_length, ih]
/-- What the first k bits of a burst are worth. -/
def worth (word : Int) (size : Nat) : Nat → BitVec 32
  | 0 => 0#32
  | k + 1 => if wbit word (size - 1 - k) then worth word size k ^^^ crcZn (size - 1 - k) 1#32 else worth word size k
theorem crcOf_turnTo (word : Int) (size frm : Nat) (b : List UInt8) (k : Nat) (hk : k ≤ size) (hf : frm + size ≤ 8 * b.length) :
    crcOf 0#32 (turnTo word size frm b k) = crcOf 0#32 b ^^^ crcZn (32 + (8 * b.length - frm - size)) (worth word size k) := by
  induction k with
  | zero => simp [turnTo, worth, crcZn_zero]
  | succ k ih =>
    have ih := ih (by omega)
    unfold turnTo worth
    split
    · rw [crcOf_turnBit _ _ (by rw [turnTo_len]; omega), ih, turnTo_len, crcZn_xor, ← crcZn_add, BitVec.xor_assoc]
      congr 3
      omega
    · exact ih
theorem one_shl (j : Nat) (hj : j < 32) : crcZn j 1#32 = 1#32 <<< j := by
  have key : ∀ j : Fin 32, crcZn j.val 1#32 = 1#32 <<< j.val := by decide +kernel
  exact key ⟨j, hj⟩
theorem worth_bit (word : Int) (size k j : Nat) (hs : size ≤ 32) (hk : k ≤ size) (hj : j < size) : (worth word size k).getLsbD j = (decide (size - 1 - j < k) && wbit word j) := by
  induction k with
  | zero => simp [worth]
  | succ k ih =>
    have ih := ih (by omega)
    unfold worth
    have e : ((1#32) <<< (size - 1 - k)).getLsbD j = decide (j = size - 1 - k) := by
      rw [← BitVec.twoPow_eq, BitVec.getLsbD_twoPow]
      have h32 : size - 1 - k < 32 := by omega
      simp only [h32, decide_true, Bool.true_and]
      by_cases h : j = size - 1 - k
      · simp [h]
      · have : ¬ size - 1 - k = j := fun e => h e.symm
        simp [h, this]
    by_cases h : j = size - 1 - k
    · subst h
      have h1 : decide (size - 1 - (size - 1 - k) < k) = false := by simp; omega
      have h2 : decide (size - 1 - (size - 1 - k) < k + 1) = true := by simp; omega
      rw [h1, Bool.false_and] at ih
      rw [h2, Bool.true_and]
      split
      · rename_i hw
        rw [BitVec.getLsbD_xor, ih, one_shl _ (by omega), e, hw]
        simp
      · rename_i hw
        rw [ih]
        simpa using hw
    · have h3 : decide (size - 1 - j < k + 1) = decide (size - 1 - j < k) := by simp; omega
      rw [h3]
      split
      · rw [BitVec.getLsbD_xor, ih, one_shl _ (by omega), e]
        simp [h]
      · exact ih
theorem sizeM_le (word : Int) (k : Nat) : sizeTo word k ≤ k := by
  induction k with
  | zero => simp [sizeTo]
  | succ k ih => unfold sizeTo; split <;> omega
theorem sizeTo_bit (word : Int) (k : Nat) (h : sizeTo word k ≠ 0) : wbit word (sizeTo word k - 1) = true := by
  induction k with
  | zero => simp [sizeTo] at h
  | succ k ih =>
    unfold sizeTo at h ⊢
    split
    · rename_i hw; simpa using hw
    · rename_i hw
      rw [if_neg hw] at h
      exact ih h
/-- A burst is seen. -/
theorem burst_crc {b x : List UInt8} {at_ word : Int} (h : burstM b at_ word = some x) (hb : crcOf 0#32 b = 0#32) : crcOf 0#32 x ≠ 0#32 ∧ x.length = b.length := by
  unfold burstM at h
  simp only at h
  split at h
  · cases h
  · rename_i hs
    injection h with h
    subst h
    have hs0 : sizeTo word 32 ≠ 0 := fun e => hs (.inl e)
    have hs1 : sizeTo word 32 ≤ 8 * b.length := by
      rcases Nat.lt_or_ge (8 * b.length) (sizeTo word 32) with h | h
      · exact absurd (.inr h) hs
      · exact h
    have hs2 := sizeM_le word 32
    have hfr : (at_ % 18446744073709551616).toNat % (8 * b.length - sizeTo word 32 + 1) < 8 * b.length - sizeTo word 32 + 1 := Nat.mod_lt _ (by omega)
    refine ⟨?_, turnTo_len _ _ _ _ _⟩
    rw [crcOf_turnTo _ _ _ _ _ (Nat.le_refl _) (by omega), hb, BitVec.zero_xor]
    intro h0
    have h1 := crcZn_inj _ _ h0
    have h2 := worth_bit word (sizeTo word 32) (sizeTo word 32) (sizeTo word 32 - 1) hs2 (Nat.le_refl _) (by omega)
    rw [h1, sizeTo_bit word 32 hs0] at h2
    simp at h2
    omega
end Go.Proofs.YtlldgfejcjnpkaaGreat
/- The reference's log: Records, Count, Same; slices.Equal of codes. -/
namespace Go.Proofs.YtlldgfejcjnpkaaGreat
open Go.RowKit
set_option maxHeartbeats 600000
set_option maxRecDepth 100000


theorem cnt_take_succ (code : Int) (L : List Rec) (k : Nat) (r : Rec) (h : L[k]? = some r) : cnt code (L.take (k + 1)) = cnt code (L.take k) + if r.code = code then 1 else 0 := by
  obtain ⟨hk, he⟩ := List.getElem?_eq_some_iff.1 h
  rw [List.take_succ_eq_append_getElem hk, he, cnt_snoc]
/-- The cells of a list of records that a slice reads as. -/
theorem reads_rec {w : World} {B : Nat} {A : Option Addr} {n : Nat} {l : List Rec} (h : Reads w B 4 A n (recsCells l)) {k : Nat} (hk : k < n) {r : Rec} (hr : l[k]? = some r) : ∃ ad, A = some ad ∧
    w.cell? (ad.add (k * 4)) = some (.int .i64 r.at_) ∧ w.cell? ⟨(ad.add (k * 4)).block, (ad.add (k * 4)).off + 1, none⟩ = some (.int .i64 r.code) ∧ w.cell? ⟨(ad.add (k * 4)).block, (ad.add (k * 4)).off + 2, none⟩ = some (.int .u32 r.s) ∧ w.cell? ⟨(ad.add (k * 4)).block, (ad.add (k * 4)).off + 3, none⟩ = some (.int .u32 r.k) := by
  obtain ⟨ad, rfl, _, hc⟩ := h.2 (by omega)
  have hcells := recsCells_get l k r hr
  have e : ∀ j, j ≠ 0 → ad.add (k * 4 + j) = ⟨(ad.add (k * 4)).block, (ad.add (k * 4)).off + j, none⟩ := by
    intro j hj
    rw [← add_of_add]
    generalize ad.add (k * 4) = y
    unfold Addr.add
    rw [if_neg hj]
  refine ⟨ad, rfl, hc (k * 4) _ ((hcells 0 (by omega)).trans rfl), ?_, ?_, ?_⟩
  · rw [← e 1 (by omega)]; exact hc (k * 4 + 1) _ ((hcells 1 (by omega)).trans rfl)
  · rw [← e 2 (by omega)]; exact hc (k * 4 + 2) _ ((hcells 2 (by omega)).trans rfl)
  · rw [← e 3 (by omega)]; exact hc (k * 4 + 3) _ ((hcells 3 (by omega)).trans rfl)

end Go.Proofs.YtlldgfejcjnpkaaGreat
