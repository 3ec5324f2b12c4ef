/- The reference's log (parapetref12): a slice of all records in a cell of a struct. -/
import Derived.Test.YtialafoofjgchaaDiagA
namespace Go.Proofs.Ytialafoofjgchaa
open Go.RowKit
set_option maxHeartbeats 600000
set_option maxRecDepth 100000

/-- The log in cell off of block b (whose cells are cs, of type t): all records L; F: its row's block. -/
structure LogAt (w : World) (b : Nat) (t : TypeId) (cs : Array Value) (off : Nat) (L : List Rec) (F : Nat → Prop) (A : Option Addr) (c : Nat) : Prop where
  blk : Blk w b t cs
  at_ : cs[off]? = some (.slice A L.length c)
  row : w.ownsRow 0 34 4 (.slice A L.length c) L.length (recsCells L)
  own : ∀ g, (Value.slice A L.length c).ownBlock = some g → F g
  ne : 34 ≠ t
def LogIs (w : World) (b : Nat) (t : TypeId) (cs : Array Value) (off : Nat) (L : List Rec) (F : Nat → Prop) : Prop := ∃ A c, LogAt w b t cs off L F A c

theorem LogIs.keep {w w' : World} {b : Nat} {t : TypeId} {cs cs' : Array Value} {off : Nat} {L : List Rec} {F F' S : Nat → Prop} (h : LogIs w b t cs off L F) (hk : Keep S w w') (hS : ∀ x, F x → ¬ S x) (hF : ∀ x, F x → F' x)
    (hb : Blk w' b t cs') (he : cs'[off]? = cs[off]?) : LogIs w' b t cs' off L F' := by
  obtain ⟨A, c, D⟩ := h
  exact ⟨A, c, hb, he.trans D.at_, ownsRow_keep D.row hk (fun g h => hS g (D.own g h)), fun g h => hF g (D.own g h), D.ne⟩

theorem LogAt.appended {w : World} {b : Nat} {t : TypeId} {cs : Array Value} {off : Nat} {L : List Rec} {F : Nat → Prop} {A : Option Addr} {c : Nat} (D : LogAt w b t cs off L F A c) (r : Rec) {n : Nat} (hn : L.length = n) {o : Obj} {w4 : World} {A' : Option Addr} {c' : Nat}
    (hg : (w.alloc o).drew.grownBy w4 (Value.slice A n c).ownBlock) (hown : w4.ownsRow 0 34 4 (.slice A' (n + 1) c') (n + 1) (recsCells L ++ r.cells.toList))
    (hat : (Value.slice A' (n + 1) c').ownBlock = (Value.slice A n c).ownBlock ∨ (Value.slice A' (n + 1) c').ownBlock = some (w.alloc o).drew.heap.size) :
    LogIs (w4.setCell ⟨b, off, none⟩ (.slice A' (n + 1) c')) b t (cs.setIfInBounds off (.slice A' (n + 1) c')) off (L ++ [r]) (fun x => F x ∨ (w.heap.size ≤ x ∧ x < (w4.setCell ⟨b, off, none⟩ (.slice A' (n + 1) c')).heap.size)) ∧
      Keep (fun x => F x ∨ x = b) w (w4.setCell ⟨b, off, none⟩ (.slice A' (n + 1) c')) := by
  subst hn
  have hlen : off < cs.size := by
    rcases Nat.lt_or_ge off cs.size with h | h
    · exact h
    · have := D.at_; rw [Array.getElem?_eq_none h] at this; cases this
  have hk1 : Keep F w w4 := ((Keep.refl F w).alloc o).drew.grown hg (fun k h _ => D.own k h)
  have hself : Blk w4 b t cs := (D.blk.alloc o).drew.grown hg (own_ne D.row D.blk D.ne)
  have hsz : (w4.setCell ⟨b, off, none⟩ (.slice A' (L.length + 1) c')).heap.size = w4.heap.size := by simp [World.setCell]
  have hk2 : Keep (fun k => k = b) w4 (w4.setCell ⟨b, off, none⟩ (.slice A' (L.length + 1) c')) := (Keep.refl (fun k => k = b) _).setCell (p := ⟨b, off, none⟩) (fun _ => rfl) _
  refine ⟨⟨A', c', hself.set_ off _, by simp [hlen], ?_, ?_, D.ne⟩, (hk1.mono (fun _ _ h => .inl h)).trans (hk2.mono (fun _ _ h => .inr h))⟩
  · rw [List.length_append, recsCells_append]
    refine ownsRow_keep (n := L.length + 1) (xs := recsCells L ++ recsCells [r]) ?_ hk2 ?_
    · simpa [recsCells] using hown
    · rintro g hg' rfl
      exact own_ne hown hself D.ne hg'
  · rintro g hg'
    have hg'' : (Value.slice A' (L.length + 1) c').ownBlock = some g := by
      rw [List.length_append] at hg'; exact hg'
    rw [hsz]
    rcases hat with e | e
    · rw [hg''] at e
      exact .inl (D.own g e.symm)
    · have := (hown.lt g hg'').2
      rw [hg''] at e
      obtain rfl := Option.some.inj e
      exact .inr ⟨by show w.heap.size ≤ (w.alloc o).heap.size; simp, this⟩

theorem refNote_any (b off : Nat) (t : TypeId) (cs : Array Value) (L : List Rec) (F : Nat → Prop) (code s k : Int) (w : World) (h : LogIs w b t cs off L F) (hs : L.length < 1073741823) :
    Calls Try.prog 19 #[.pointer (some ⟨b, off, none⟩), .int .i64 code, .int .u32 s, .int .u32 k] w fun e w' =>
      e = .returned (.int .i64 (L.length + 1)) ∧ (∃ v, LogIs w' b t (cs.setIfInBounds off v) off (L ++ [⟨L.length + 1, code, s, k⟩]) (fun x => F x ∨ (w.heap.size ≤ x ∧ x < w'.heap.size))) ∧ Keep (fun x => F x ∨ x = b) w w' := by
  obtain ⟨A, c, D⟩ := h
  have hlen : off < cs.size := by
    rcases Nat.lt_or_ge off cs.size with h | h
    · exact h
    · have := D.at_; rw [Array.getElem?_eq_none h] at this; cases this
  have hC : w.cell? ⟨b, off, none⟩ = some (.slice A L.length c) := (D.blk.cell off).trans D.at_
  have hZ := D.blk.frozen off
  have hA1 : ∀ (W : World) (o : Obj), b < W.heap.size → (W.alloc o).cell? ⟨b, off, none⟩ = W.cell? ⟨b, off, none⟩ := fun W o hlt => cellA hlt o off
  have hblt := D.blk.lt
  obtain ⟨i0, hi0, hz0, hz1, hz2⟩ := info_parts rec_info
  obtain ⟨m, hm⟩ : ∃ m, m = L.length := ⟨_, rfl⟩
  rw [← hm] at hC hs ⊢
  have hat : cs[off]? = some (.slice A m c) := by rw [hm]; exact D.at_
  have Hat := Lib.hid hat
  have Hm := Lib.hid hm
  have hrow := D.row
  rw [← hm] at hrow
  clear hm hat
  have hwr : IntKind.i64.wrap ((m : Int) + 1) = m + 1 := IntWalk.i64_in _ (by omega)
  go_enter Try.func19, Try.ntmps19
  go_wp2_with fail
  go_region_law (refine step_append_any _ rfl (.tmp 13) (.tmp 24) _ rfl 0 34 i0 _ 4 24 Try.underlying30 hi0 hz0 hz1 hz2 rfl (by omega) (.slice A m c) m (recsCells L) rfl (hrow.alloc _) (w.heap.size + 1) (some ⟨w.heap.size, 0, none⟩) 1 1 _ rfl (Reads.of_blk (Blk.new w _ _) (by omega) rfl) (by simp [Value.oneCell']) (by unfold maxLen; omega) (by omega) (Nat.zero_le _) ?_; intro v4 W4 hown4 hg4 hat4; obtain ⟨A4, c4, rfl⟩ := own_slice hown4; have hB4 := (D.blk.alloc (.cells #[.int .i64 (m + 1), .int .i64 code, .int .u32 s, .int .u32 k] 34)).drew.grown hg4 (own_ne hrow D.blk D.ne); have hA4 : W4.cell? ⟨b, off, none⟩ = some (.slice A m c) := (hB4.cell off).trans Hat.out; have hZ4 := hB4.frozen off)
  all_goals
    go_wp2_with fail
    go_ret
    obtain ⟨h1, h2⟩ := D.appended ⟨(m : Int) + 1, code, s, k⟩ Hm.out.symm hg4 hown4 hat4
    exact ⟨rfl, ⟨_, h1⟩, h2⟩
end Go.Proofs.Ytialafoofjgchaa
