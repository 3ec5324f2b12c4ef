/- The base of the laws, part 1: contracts and plain lemmas, no statement. -/
import Derived.WalkKit
import Derived.WalkSpells
import Derived.WalkLawsBesides
import Derived.Deep.AppendLies
import Derived.Deep.Draws
import Derived.Laws.Rows
import Derived.Lib.Hide
import Derived.Maps.AppendAt
import Derived.Laws.OwnMore
import Derived.RegionTactic
import Derived.OwnWalk
import Derived.Deep.RegionLaw
import Derived.StillTailTactics
import Derived.Deep.QuietTactic
import Derived.BigQuiet
import Derived.Deep.RegionWith
import Derived.Deep.DeepCutAuto
import Derived.Deep.CutBlock
import Derived.Deep.LoopGhost
import Derived.ProofKit
import Derived.OpenShut
import Derived.ShutString
import Derived.ChangeOld
import Derived.Carry
import Derived.SizedLaws
import Derived.ChangeSlices
import Derived.Lib.SmallJoins
import Derived.Deep.Slices
import Derived.Test.YtlldgfejcjnpkaaGreatProg
set_option linter.unusedVariables false
/- Words for memory that the proofs of this seat share: a block known whole, what a call keeps, a slice that reads as a list. No program here. -/
namespace Go.Proofs.YtlldgfejcjnpkaaGreat
open Go.RowKit

/-- Block g is just the cells cs of element type t, none frozen. -/
def Blk (w : World) (g : Nat) (t : TypeId) (cs : Array Value) : Prop := w.heap[g]? = some (.cells cs t (0, 0))

/-- What a call keeps: all blocks of before but those in S; the streams; no block goes. -/
structure Keep (S : Nat → Prop) (w w' : World) : Prop where
  os : w'.os = w.os
  tape : w'.tape = w.tape
  output : w'.output = w.output
  size : w.heap.size ≤ w'.heap.size
  block : ∀ k, k < w.heap.size → ¬ S k → w'.heap[k]? = w.heap[k]?

section
variable {w w' w'' : World} {g : Nat} {t : TypeId} {cs : Array Value} {S S' : Nat → Prop}
theorem Blk.lt (h : Blk w g t cs) : g < w.heap.size := by
  rcases Nat.lt_or_ge g w.heap.size with hlt | hge
  · exact hlt
  · unfold Blk at h; rw [Array.getElem?_eq_none hge] at h; cases h
theorem Blk.cell (h : Blk w g t cs) (i : Nat) : w.cell? ⟨g, i, none⟩ = cs[i]? := cell_of_row w g i cs t (0, 0) h
theorem Blk.frozen (h : Blk w g t cs) (i : Nat) : w.frozen? ⟨g, i, none⟩ = false := by
  unfold Blk at h
  simp [World.frozen?, h]
theorem Blk.new (w : World) (t : TypeId) (cs : Array Value) : Blk (w.alloc (.cells cs t)) w.heap.size t cs := heap_alloc_new w _
theorem Blk.new' (w : World) (t : TypeId) (cs : Array Value) {g : Nat} (hg : w.heap.size = g) : Blk (w.alloc (.cells cs t)) g t cs := by subst hg; exact Blk.new w t cs
theorem Blk.drew (h : Blk w g t cs) : Blk w.drew g t cs := h
theorem Blk.drewN (h : Blk w g t cs) (n : Nat) : Blk (w.drewN n) g t cs := h
theorem Blk.alloc (h : Blk w g t cs) (o : Obj) : Blk (w.alloc o) g t cs := (Below.heap_alloc w o g h.lt).trans h
theorem Blk.set_ (h : Blk w g t cs) (i : Nat) (u : Value) : Blk (w.setCell ⟨g, i, none⟩ u) g t (cs.setIfInBounds i u) := by
  unfold Blk at h ⊢
  simp [World.setCell, Array.getElem?_modify, h]
theorem Blk.far (h : Blk w g t cs) {p : Addr} (hp : g ≠ p.block) (u : Value) : Blk (w.setCell p u) g t cs := (Below.heap_setCell w p u g hp).trans h
theorem Blk.keep (h : Blk w g t cs) (hk : Keep S w w') (hg : ¬ S g) : Blk w' g t cs := (hk.block g h.lt hg).trans h
theorem Blk.below {B : Nat} (h : Blk w g t cs) (hb : Below B w w') (hg : g < B) : Blk w' g t cs := (hb.block g hg).trans h
theorem Blk.ne_ {g' : Nat} {t' : TypeId} {cs' : Array Value} (h : Blk w g t cs) (h' : Blk w g' t' cs') (hne : t ≠ t') : g ≠ g' := by
  rintro rfl
  unfold Blk at h h'
  rw [h] at h'
  injection h' with h'
  injection h' with _ ht
  exact hne ht
theorem Blk.eq_ {cs' : Array Value} (h : Blk w g t cs) (h' : Blk w g t cs') : cs = cs' := by
  unfold Blk at h h'
  rw [h] at h'
  injection h' with h'
  injection h'

/-- Rules for the walk: a cell of an old block behind a new block, behind a store elsewhere. -/
theorem cellA (h : g < w.heap.size) (o : Obj) (i : Nat) : (w.alloc o).cell? ⟨g, i, none⟩ = w.cell? ⟨g, i, none⟩ := World.cell?_alloc_lt w o ⟨g, i, none⟩ h
theorem cellS (w : World) {b : Nat} (h : b ≠ g) (j : Nat) (v : Value) (i : Nat) : (w.setCell ⟨b, j, none⟩ v).cell? ⟨g, i, none⟩ = w.cell? ⟨g, i, none⟩ :=
  World.cell?_of_block (Below.heap_setCell _ _ _ _ (fun e => h e.symm))

theorem Keep.refl (S : Nat → Prop) (w : World) : Keep S w w := ⟨rfl, rfl, rfl, Nat.le_refl _, fun _ _ _ => rfl⟩
theorem Keep.trans (h : Keep S w w') (k : Keep S w' w'') : Keep S w w'' :=
  ⟨k.os.trans h.os, k.tape.trans h.tape, k.output.trans h.output, Nat.le_trans h.size k.size, fun i hi hs => (k.block i (Nat.lt_of_lt_of_le hi h.size) hs).trans (h.block i hi hs)⟩
/-- The second step may touch what the first one made. -/
theorem Keep.andThen (h : Keep S w w') (k : Keep S' w' w'') (hs : ∀ b, b < w.heap.size → S' b → S b) : Keep S w w'' :=
  ⟨k.os.trans h.os, k.tape.trans h.tape, k.output.trans h.output, Nat.le_trans h.size k.size, fun i hi hn => (k.block i (Nat.lt_of_lt_of_le hi h.size) (fun hx => hn (hs i hi hx))).trans (h.block i hi hn)⟩
theorem Keep.mono (h : Keep S w w') (hs : ∀ b, b < w.heap.size → S b → S' b) : Keep S' w w' :=
  ⟨h.os, h.tape, h.output, h.size, fun i hi hn => h.block i hi (fun hx => hn (hs i hi hx))⟩
theorem Keep.of_below (h : Below w.heap.size w w') : Keep S w w' := ⟨h.os, h.tape, h.output, h.size, fun k hk _ => h.block k hk⟩
theorem belowN {B : Nat} (h : Below B w w') (k : Nat) : Below B w (w'.drewN k) := ⟨h.os, h.tape, h.output, h.size, h.block⟩
theorem Keep.below (h : Keep S w w') {B : Nat} (hB : B ≤ w.heap.size) (hs : ∀ b, S b → B ≤ b) : Below B w w' :=
  ⟨h.os, h.tape, h.output, h.size, fun k hk => h.block k (Nat.lt_of_lt_of_le hk hB) (fun hx => absurd (hs k hx) (by omega))⟩
theorem Keep.drew (h : Keep S w w') : Keep S w w'.drew := ⟨h.os, h.tape, h.output, h.size, h.block⟩
theorem Keep.drewN (h : Keep S w w') (n : Nat) : Keep S w (w'.drewN n) := ⟨h.os, h.tape, h.output, h.size, h.block⟩
theorem Keep.alloc (h : Keep S w w') (o : Obj) : Keep S w (w'.alloc o) :=
  h.trans ⟨rfl, rfl, rfl, by simp, fun k hk _ => Below.heap_alloc _ _ _ hk⟩
theorem Keep.setCell (h : Keep S w w') {p : Addr} (hp : p.block < w.heap.size → S p.block) (u : Value) : Keep S w (w'.setCell p u) := by
  refine ⟨h.os, h.tape, h.output, by simpa [World.setCell] using h.size, fun k hk hn => ?_⟩
  rw [Below.heap_setCell _ _ _ _ (fun e => hn (by subst e; exact hp hk))]
  exact h.block k hk hn
theorem Keep.grown {row : Option Nat} (h : Keep S w w') (hg : w'.grownBy w'' row) (hr : ∀ k, row = some k → k < w.heap.size → S k) : Keep S w w'' :=
  ⟨hg.os.trans h.os, hg.tape.trans h.tape, hg.output.trans h.output, Nat.le_trans h.size hg.size, fun k hk hn =>
    (hg.block k (Nat.lt_of_lt_of_le hk h.size) (fun e => hn (hr k e.symm hk))).trans (h.block k hk hn)⟩
theorem Keep.obj (hk : Keep S w w') {o : Obj} (h : w.heap[g]? = some o) (hg : ¬ S g) : w'.heap[g]? = some o := by
  have : g < w.heap.size := by
    rcases Nat.lt_or_ge g w.heap.size with hlt | hge
    · exact hlt
    · rw [Array.getElem?_eq_none hge] at h; cases h
  exact (hk.block g this hg).trans h
theorem ownsRow_keep {base : Nat} {e : TypeId} {size n : Nat} {v : Value} {xs : List Value} (h : w.ownsRow base e size v n xs) (hk : Keep S w w') (hS : ∀ g, v.ownBlock = some g → ¬ S g) : w'.ownsRow base e size v n xs := by
  refine ⟨h.1, ?_⟩
  rcases h.2 with hn | ⟨g, cap, cur, rfl, hb, hgg, rest⟩
  · exact .inl hn
  · exact .inr ⟨g, cap, cur, rfl, hb, (hk.block g (Array.getElem?_eq_some_iff.1 hgg).1 (hS g rfl)).trans hgg, rest⟩
theorem own_slice {base : Nat} {e : TypeId} {size n : Nat} {v : Value} {xs : List Value} (h : w.ownsRow base e size v n xs) : ∃ A c, v = .slice A n c := by
  rcases h.2 with ⟨rfl, rfl⟩ | ⟨g, cap, cur, rfl, _⟩ <;> exact ⟨_, _, rfl⟩
theorem own_ne {base : Nat} {e : TypeId} {size n : Nat} {v : Value} {xs : List Value} (h : w.ownsRow base e size v n xs) (hg : Blk w g t cs) (hne : e ≠ t) : v.ownBlock ≠ some g := by
  rcases h.2 with ⟨rfl, _⟩ | ⟨g', cap, cur, rfl, _, hh, _⟩
  · simp [Value.ownBlock]
  · intro he
    have : g' = g := by simpa [Value.ownBlock] using he
    subst this
    exact Blk.ne_ (t := e) hh hg hne rfl
theorem Blk.grown {row : Option Nat} (h : Blk w g t cs) (hb : w.grownBy w' row) (hg : row ≠ some g) : Blk w' g t cs := (hb.block g h.lt (fun e => hg e.symm)).trans h
/-- A cell of an owned row of one-cell elements. -/
theorem own_cell1 {α : Type} {f : α → Value} {base : Nat} {e : TypeId} {A : Option Addr} {n c : Nat} {xs : List α} (h : w.ownsRow base e 1 (.slice A n c) n (xs.map f)) (hn : 0 < n) : ∃ g, A = some ⟨g, 0, none⟩ ∧ ∀ k (hk : k < xs.length), w.cell? ⟨g, k, none⟩ = some (f xs[k]) := by
  rcases h.2 with ⟨_, h0⟩ | ⟨g, cap, cur, hv, _⟩
  · omega
  · injection hv with h1 h2 h3
    subst h1
    refine ⟨g, rfl, fun k hk => ?_⟩
    have := h.cells (g := g) rfl k (f xs[k]) (by simp [hk])
    rw [← this]
    unfold Addr.add
    by_cases hz : k = 0 <;> simp [hz]
theorem obj_lt {o : Obj} (h : w.heap[g]? = some o) : g < w.heap.size := by
  rcases Nat.lt_or_ge g w.heap.size with hlt | hge
  · exact hlt
  · rw [Array.getElem?_eq_none hge] at h; cases h
end

/- A slice that reads as a list; append onto a row of the call's own (after the guide's words for memory). -/
theorem block_of_add (a : Addr) (n : Nat) : (a.add n).block = a.block := by unfold Addr.add; split <;> rfl
theorem add_of_add (a : Addr) (i j : Nat) : (a.add i).add j = a.add (i + j) := by
  unfold Addr.add
  by_cases hi : i = 0 <;> by_cases hj : j = 0 <;> simp [hi, hj, Nat.add_assoc]

def Reads (w : World) (B size : Nat) (A : Option Addr) (n : Nat) (xs : List Value) : Prop :=
  xs.length = n * size ∧ (0 < n → ∃ ad, A = some ad ∧ ad.block < B ∧ ∀ j u, xs[j]? = some u → w.cell? (ad.add j) = some u)

section
variable {w w' : World} {B B' size n : Nat} {A : Option Addr} {xs : List Value}
theorem Reads.none_ : Reads w B size A 0 [] := ⟨by simp, fun h => absurd h (by omega)⟩
theorem Reads.at_ {k : Nat} (h : Reads w B 1 A n xs) (hk : k < n) : ∃ ad u, A = some ad ∧ ad.block < B ∧ xs[k]? = some u ∧ w.cell? (ad.add k) = some u := by
  obtain ⟨ad, e, hb, hc⟩ := h.2 (by omega)
  have hl : k < xs.length := by have := h.1; omega
  exact ⟨ad, xs[k], e, hb, List.getElem?_eq_getElem hl, hc k _ (List.getElem?_eq_getElem hl)⟩
theorem Reads.keep (h : Reads w B size A n xs) (hk : ∀ p : Addr, p.block < B → w'.cell? p = w.cell? p) : Reads w' B size A n xs :=
  ⟨h.1, fun hn => by
    obtain ⟨ad, e, hb, hc⟩ := h.2 hn
    exact ⟨ad, e, hb, fun j u hu => (hk _ (by rw [block_of_add]; exact hb)).trans (hc j u hu)⟩⟩
theorem Reads.more (h : Reads w B size A n xs) (hB : B ≤ B') : Reads w B' size A n xs :=
  ⟨h.1, fun hn => by
    obtain ⟨ad, e, hb, hc⟩ := h.2 hn
    exact ⟨ad, e, by omega, hc⟩⟩
theorem Reads.below (h : Reads w B size A n xs) (hb : Below B w w') : Reads w' B size A n xs := h.keep fun _ hp => hb.cell hp
theorem Reads.drew (h : Reads w B size A n xs) : Reads w.drew B size A n xs := h
theorem Reads.drewN (h : Reads w B size A n xs) (k : Nat) : Reads (w.drewN k) B size A n xs := h
theorem Reads.alloc (h : Reads w B size A n xs) (hB : B ≤ w.heap.size) (o : Obj) : Reads (w.alloc o) B size A n xs := h.keep fun p hp => World.cell?_alloc_lt w o p (by omega)
theorem Reads.setCell (h : Reads w B size A n xs) {p : Addr} (hB : B ≤ p.block) (u : Value) : Reads (w.setCell p u) B size A n xs :=
  h.keep fun q hq => World.cell?_setCell_other w p q u (fun e => by subst e; omega)
theorem Reads.grown (h : Reads w B size A n xs) {row : Option Nat} (hg : w.grownBy w' row) (hB : B ≤ w.heap.size) (hr : ∀ g, row = some g → B ≤ g) : Reads w' B size A n xs :=
  h.keep fun p hp => World.cell?_of_block (hg.block p.block (by omega) (fun e => by have := hr _ e.symm; omega))
theorem Reads.cut (h : Reads w B size A n xs) {k cap : Nat} (hk : k ≤ n) (hc : n ≤ cap) :
    Reads w B size (if cap = k then A else A.map (·.add (k * size))) (n - k) (xs.drop (k * size)) := by
  refine ⟨by rw [List.length_drop, h.1, Nat.sub_mul], fun hn => ?_⟩
  obtain ⟨ad, rfl, hb, hcell⟩ := h.2 (by omega)
  rw [if_neg (by omega)]
  refine ⟨ad.add (k * size), rfl, by rw [block_of_add]; exact hb, fun j u hu => ?_⟩
  rw [add_of_add]
  exact hcell _ u (by rw [← hu, List.getElem?_drop])
theorem Reads.of_own {base : Nat} {e : TypeId} {c : Nat} (h : w.ownsRow base e size (.slice A n c) n xs) : Reads w w.heap.size size A n xs := by
  refine ⟨h.1, fun hn => ?_⟩
  obtain ⟨g, cap, hv, _, hlt⟩ := h.form hn
  have hA : A = some ⟨g, 0, none⟩ := by injection hv
  subst hA
  exact ⟨_, rfl, hlt, h.cells (g := g) rfl⟩
end
section
variable {P : Program} (w : World)

theorem run_append_of_nil (base : Nat) (t ty e : TypeId) (i : TypeInfo) (size : Nat) (ht : P.underlying t = some (.slice e)) (hi : P.info? e = some i)
    (v : Value) (n : Nat) (xs : List Value) (hown : w.ownsRow base e size v n xs) (c : Nat) : (Builtin.append_ #[t, t] ty #[v, .slice none 0 c]).run P w = .ok v w := by
  rcases hown.2 with ⟨rfl, rfl⟩ | ⟨g, cap, cur, rfl, _, _, hnc, _⟩
  · simp [Builtin.append_, run_underlying ht, sizeOf, typeInfo, hi, Builtin.lenOf, Builtin.firstCells]
  · simp [Builtin.append_, run_underlying ht, sizeOf, typeInfo, hi, Builtin.lenOf, Builtin.firstCells, hnc, storeCells]

theorem run_append_any (base : Nat) (t ty e : TypeId) (i : TypeInfo) (z : Value) (size bytes : Nat) (ht : P.underlying t = some (.slice e)) (hi : P.info? e = some i) (hz : i.zero = some z)
    (hsize : i.size = size) (hby : i.bytes = bytes) (hzs : z.cells.size = size) (hsz : 0 < size)
    (v : Value) (n : Nat) (xs : List Value) (hown : w.ownsRow base e size v n xs)
    (B : Nat) (A : Option Addr) (m c : Nat) (news : List Value) (hr : Reads w B size A m news) (h1 : ∀ u ∈ news, u.oneCell' = true)
    (h63 : n + m ≤ maxLen) (hbytes : (n + m) * bytes ≤ 140737488355328) (hbase : base ≤ w.heap.size) :
    ∃ v' w', (Builtin.append_ #[t, t] ty #[v, .slice A m c]).run P w = .ok v' w' ∧ w'.ownsRow base e size v' (n + m) (xs ++ news) ∧ w.grownBy w' v.ownBlock ∧
      (v'.ownBlock = v.ownBlock ∨ v'.ownBlock = some w.heap.size) := by
  rcases A with _ | ad
  · have hm : m = 0 := by
      rcases Nat.eq_zero_or_pos m with h0 | h0
      · exact h0
      · obtain ⟨ad, h, _⟩ := hr.2 h0
        cases h
    subst hm
    have hn : news = [] := List.eq_nil_of_length_eq_zero (by simpa using hr.1)
    subst hn
    exact ⟨v, w, run_append_of_nil w base t ty e i size ht hi v n xs hown c, by simpa using hown, World.grownBy.refl w _, .inl rfl⟩
  · have hcells : ∀ j u, news[j]? = some u → w.cell? (ad.add j) = some u := by
      intro j u hu
      rcases Nat.eq_zero_or_pos m with h0 | h0
      · subst h0
        have hn : news = [] := List.eq_nil_of_length_eq_zero (by simpa using hr.1)
        subst hn
        simp at hu
      · obtain ⟨ad', h, _, hc⟩ := hr.2 h0
        injection h with h
        subst h
        exact hc j u hu
    obtain ⟨v', w', hrun, h2, h3, _, h5⟩ := run_append_own_at (P := P) w base t ty e i z size bytes ht hi hz hsize hby hzs hsz v n xs hown ad m c news hr.1 hcells h1 h63 hbytes hbase
    exact ⟨v', w', hrun, h2, h3, h5⟩

theorem wp_append_any {o : Oper} {a : Act} {K : Act → World → Prop} {Q : Exit → Act → World → Prop} (s x : Operand) (t : TypeId)
    (ho : o.op = .call { callee := .builtin .append, args := #[s, x], argTypes := #[t, t] })
    (base : Nat) (e : TypeId) (i : TypeInfo) (z : Value) (size bytes : Nat) (ht : P.underlying t = some (.slice e)) (hi : P.info? e = some i) (hz : i.zero = some z)
    (hsize : i.size = size) (hby : i.bytes = bytes) (hzs : z.cells.size = size) (hsz : 0 < size)
    (v : Value) (n : Nat) (xs : List Value) (hs : a.eval s = v) (hown : w.ownsRow base e size v n xs)
    (B : Nat) (A : Option Addr) (m c : Nat) (news : List Value) (hx : a.eval x = .slice A m c) (hr : Reads w B size A m news) (h1 : ∀ u ∈ news, u.oneCell' = true)
    (h63 : n + m ≤ maxLen) (hbytes : (n + m) * bytes ≤ 140737488355328) (hbase : base ≤ w.heap.size)
    (h : ∀ v' w', w'.ownsRow base e size v' (n + m) (xs ++ news) → w.grownBy w' v.ownBlock → (v'.ownBlock = v.ownBlock ∨ v'.ownBlock = some w.heap.size) → K (a.put o.dst v') w') : o.wp P a w K Q := by
  obtain ⟨v', w', hrun, h2, h3, h4⟩ := run_append_any (P := P) w base t o.type e i z size bytes ht hi hz hsize hby hzs hsz v n xs hown B A m c news hr h1 h63 hbytes hbase
  unfold Oper.wp execOp
  simp only [ho, resolve, invoke, builtin, Sem.run_bind, Sem.run_pure, Result.andThen_ok, List.map_toArray, List.map_cons, List.map_nil, hs, hx, hrun]
  exact h v' w' h2 h3 h4

theorem wpList_append_any {ops : Array Oper} {rest : List Oper} {o : Oper} {a : Act} {Q : Exit → Act → World → Prop} (hgd : o.guard = none) (s x : Operand) (t : TypeId)
    (ho : o.op = .call { callee := .builtin .append, args := #[s, x], argTypes := #[t, t] })
    (base : Nat) (e : TypeId) (i : TypeInfo) (z : Value) (size bytes : Nat) (ht : P.underlying t = some (.slice e)) (hi : P.info? e = some i) (hz : i.zero = some z)
    (hsize : i.size = size) (hby : i.bytes = bytes) (hzs : z.cells.size = size) (hsz : 0 < size)
    (v : Value) (n : Nat) (xs : List Value) (hs : a.eval s = v) (hown : w.ownsRow base e size v n xs)
    (B : Nat) (A : Option Addr) (m c : Nat) (news : List Value) (hx : a.eval x = .slice A m c) (hr : Reads w B size A m news) (h1 : ∀ u ∈ news, u.oneCell' = true)
    (h63 : n + m ≤ maxLen) (hbytes : (n + m) * bytes ≤ 140737488355328) (hbase : base ≤ w.heap.size)
    (h : ∀ v' w', w'.ownsRow base e size v' (n + m) (xs ++ news) → w.grownBy w' v.ownBlock → (v'.ownBlock = v.ownBlock ∨ v'.ownBlock = some w.heap.size) → wpList P ops Q rest (a.put o.dst v') w') : wpList P ops Q (o :: rest) a w :=
  wpList_plain hgd fun _ hK => wp_append_any w s x t ho base e i z size bytes ht hi hz hsize hby hzs hsz v n xs hs hown B A m c news hx hr h1 h63 hbytes hbase fun v' w' h2 h3 h4 => hK _ _ (h v' w' h2 h3 h4)

theorem step_append_any {ops : Array Oper} {o : Oper} {a : Act} {K : Act → World → Prop} {Q : Exit → Act → World → Prop} {E : Prop} (hgd : o.guard = none) (s x : Operand) (t : TypeId)
    (ho : o.op = .call { callee := .builtin .append, args := #[s, x], argTypes := #[t, t] })
    (base : Nat) (e : TypeId) (i : TypeInfo) (z : Value) (size bytes : Nat) (ht : P.underlying t = some (.slice e)) (hi : P.info? e = some i) (hz : i.zero = some z)
    (hsize : i.size = size) (hby : i.bytes = bytes) (hzs : z.cells.size = size) (hsz : 0 < size)
    (v : Value) (n : Nat) (xs : List Value) (hs : a.eval s = v) (hown : w.ownsRow base e size v n xs)
    (B : Nat) (A : Option Addr) (m c : Nat) (news : List Value) (hx : a.eval x = .slice A m c) (hr : Reads w B size A m news) (h1 : ∀ u ∈ news, u.oneCell' = true)
    (h63 : n + m ≤ maxLen) (hbytes : (n + m) * bytes ≤ 140737488355328) (hbase : base ≤ w.heap.size)
    (h : ∀ v' w', w'.ownsRow base e size v' (n + m) (xs ++ news) → w.grownBy w' v.ownBlock → (v'.ownBlock = v.ownBlock ∨ v'.ownBlock = some w.heap.size) → K (a.put o.dst v') w') :
    if Region.wanted o (yielded ops a.tmps) = true then Oper.wp P o a w K Q else E := by
  have hw : Region.wanted o (yielded ops a.tmps) = true := by simp [Region.wanted, hgd]
  rw [if_pos hw]
  exact wp_append_any w s x t ho base e i z size bytes ht hi hz hsize hby hzs hsz v n xs hs hown B A m c news hx hr h1 h63 hbytes hbase h
end

theorem Reads.of_blk {w : World} {g : Nat} {t : TypeId} {cs : Array Value} (h : Blk w g t cs) {B size n : Nat} (hB : g < B) (hn : cs.size = n * size) : Reads w B size (some ⟨g, 0, none⟩) n cs.toList := by
  refine ⟨by simpa using hn, fun _ => ⟨⟨g, 0, none⟩, rfl, hB, fun j u hu => ?_⟩⟩
  have : (⟨g, 0, none⟩ : Addr).add j = ⟨g, j, none⟩ := by unfold Addr.add; split <;> simp_all
  rw [this, h.cell j]
  simpa using hu
end Go.Proofs.YtlldgfejcjnpkaaGreat
/- How the rows of this seat open their arguments: a slice of whole numbers read as a list, with the form's own bound on its length. No program here. -/
namespace Go.Proofs.YtlldgfejcjnpkaaGreat
open Go.ChangeShapes Go.WideShapes Go.RowKit
section
variable {H : Type} {enc : TypeId × Value → H} {P : Program} {W : World} {base : Nat} {spare : Nat → Bool} {held : Bool}
theorem sized_any {t e : TypeId} {a : Option Addr} {len cap : Nat} {d : DataW H} {ps : List MemPlace} {ts : List TypeId} {ds : List (DataW H)} {j : Nat}
    (hsz : (DataW.weightsEach P ts ds).all (· ≤ reachBytes) = true) (ht : ts[j]? = some t) (hd : ds[j]? = some d) (hu : P.underlying t = some (.slice e)) {B : Nat} (hB : P.bytesOf e = B)
    (h : DataW.Trod enc P W base spare held t (.slice a len cap) d ps) : len * B ≤ 140737488351232 := by
  obtain ⟨fuel, hf⟩ := h
  rcases Go.Deep.open_slice hu hf with ⟨hcs, _⟩ | ⟨x, l, c, m, n, D, Pl, hcs, _, hl, _, hm, hx, _⟩
  · simp [Value.cells] at hcs
    obtain ⟨rfl, rfl, rfl⟩ := hcs
    simp
  · simp [Value.cells] at hcs
    obtain ⟨rfl, rfl, rfl⟩ := hcs
    obtain ⟨hx, _⟩ := Prod.mk.inj hx
    subst hx
    have z := sized_slice hsz ht hd hu
    rw [hB] at z
    have h1 : len ≤ ((List.range len).map D).length + ((List.range (m - len)).map fun j => D (len + j)).length := by simp
    exact Nat.le_trans (Nat.mul_le_mul_right _ h1) z
theorem cell_lt {w : World} {a : Addr} {v : Value} (h : w.cell? a = some v) : a.block < w.heap.size := by
  unfold World.cell? at h
  rcases Nat.lt_or_ge a.block w.heap.size with hlt | hge
  · exact hlt
  · rw [Array.getElem?_eq_none hge] at h; cases h
theorem reads_ints {t e : TypeId} {k : IntKind} {a : Option Addr} {len cap : Nat} {d : DataW H} {ps : List MemPlace} (hu : P.underlying t = some (.slice e)) (he : P.underlying e = some (.int k)) (hc : P.cellsOf e = 1)
    (h : DataW.Trod enc P W base spare held t (.slice a len cap) d ps) :
    ∃ zs : List Int, zs.length = len ∧ Reads W W.heap.size 1 a len (zs.map (Value.int k)) ∧ (∀ z ∈ zs, (Lit.int k z).wf = true) ∧ len ≤ cap ∧ cap ≤ maxLen ∧ (a = none → cap = 0) := by
  obtain ⟨fuel, hf⟩ := h
  rcases open_ints hu he hc hf with ⟨hcs, _⟩ | ⟨x, l, c, zs, hcs, _, hl, hm, hz, _, hcell, hwz⟩
  · simp [Value.cells] at hcs
    obtain ⟨rfl, rfl, rfl⟩ := hcs
    exact ⟨[], rfl, ⟨by simp, fun h => absurd h (by omega)⟩, by simp, Nat.le_refl _, by unfold maxLen; omega, fun _ => rfl⟩
  · simp [Value.cells] at hcs
    obtain ⟨rfl, rfl, rfl⟩ := hcs
    have hlen : len ≤ zs.length := by
      rw [hz]; split
      · exact hl
      · exact Nat.le_refl _
    have htl : (zs.take len).length = len := by rw [List.length_take]; omega
    refine ⟨zs.take len, htl, ⟨by rw [List.length_map, htl]; omega, fun hn => ⟨x, rfl, ?_, fun j u hu => ?_⟩⟩, fun z hz => hwz z (List.mem_of_mem_take hz), hl, hm, by simp⟩
    · have := cell_lt (hcell 0 (by omega))
      rwa [block_of_add] at this
    · rw [List.getElem?_map] at hu
      rcases Nat.lt_or_ge j len with hj | hj
      · rw [List.getElem?_take_of_lt hj, List.getElem?_eq_getElem (by omega)] at hu
        simp only [Option.map_some, Option.some.injEq] at hu
        rw [hcell j (by omega), ← hu, List.getD_eq_getElem?_getD, List.getElem?_eq_getElem (by omega)]
        rfl
      · rw [List.getElem?_eq_none (by rw [htl]; exact hj)] at hu
        cases hu
end
end Go.Proofs.YtlldgfejcjnpkaaGreat
/- Structs of more fields, by value, opened. No program here. -/
namespace Go.Proofs.YtlldgfejcjnpkaaGreat
open Go.ChangeShapes Go.WideShapes Go.RowKit Go.Joins Go.Deep
section
variable {H : Type} {enc : TypeId × Value → H} {P : Program} {w : World} {base : Nat} {spare : Nat → Bool} {held : Bool}
theorem array5 {α : Type} {cs : Array α} (h : cs.size = 5) : ∃ c0 c1 c2 c3 c4, cs = #[c0, c1, c2, c3, c4] := by
  obtain ⟨l⟩ := cs
  match l, h with
  | [c0, c1, c2, c3, c4], _ => exact ⟨c0, c1, c2, c3, c4, rfl⟩
theorem trod_struct5 {t : TypeId} {f0 f1 f2 f3 f4 : Field} {fuel : Nat} {cs : List Value} {x : DataW H × List MemPlace} (ht : P.underlying t = some (.struct #[f0, f1, f2, f3, f4])) (h : DataW.trod enc P w base spare held fuel t cs = some x) :
    ∃ y0 y1 y2 y3 y4 n, x = (.agg [y0.1, y1.1, y2.1, y3.1, y4.1], y0.2 ++ (y1.2 ++ (y2.2 ++ (y3.2 ++ y4.2)))) ∧ cs.length = P.cellsOf t ∧ DataW.trod enc P w base spare held n f0.type ((cs.drop f0.offset).take (P.cellsOf f0.type)) = some y0 ∧ DataW.trod enc P w base spare held n f1.type ((cs.drop f1.offset).take (P.cellsOf f1.type)) = some y1 ∧ DataW.trod enc P w base spare held n f2.type ((cs.drop f2.offset).take (P.cellsOf f2.type)) = some y2 ∧ DataW.trod enc P w base spare held n f3.type ((cs.drop f3.offset).take (P.cellsOf f3.type)) = some y3 ∧ DataW.trod enc P w base spare held n f4.type ((cs.drop f4.offset).take (P.cellsOf f4.type)) = some y4 := by
  obtain ⟨xs, n, _, rfl, hl, hlen, hf⟩ := DataW.trod_struct ht h
  match xs, hlen with
  | [y0, y1, y2, y3, y4], _ => exact ⟨y0, y1, y2, y3, y4, n, by simp, hl, by simpa using hf 0 f0 rfl, by simpa using hf 1 f1 rfl, by simpa using hf 2 f2 rfl, by simpa using hf 3 f3 rfl, by simpa using hf 4 f4 rfl⟩
theorem open_agg5 {r : Reach} {b0 : Nat} {t : TypeId} {f0 f1 f2 f3 f4 : Field} {v : Value} {d : DataW H} {p : List MemPlace} (hs : P.underlying t = some (.struct #[f0, f1, f2, f3, f4])) (hone : oneCellFields P #[f0, f1, f2, f3, f4] = true) (hC : P.cellsOf t = 5)
    (hv : Value.okWide P w r b0 t v) (h : DataW.Trod enc P w base spare held t v d p) :
    ∃ (v0 v1 v2 v3 v4 : Value) (y0 y1 y2 y3 y4 : DataW H × List MemPlace) (n : Nat), v = .agg #[v0, v1, v2, v3, v4] ∧ d = .agg [y0.1, y1.1, y2.1, y3.1, y4.1] ∧ p = y0.2 ++ (y1.2 ++ (y2.2 ++ (y3.2 ++ y4.2))) ∧ DataW.trod enc P w base spare held n f0.type [v0] = some y0 ∧ DataW.trod enc P w base spare held n f1.type [v1] = some y1 ∧ DataW.trod enc P w base spare held n f2.type [v2] = some y2 ∧ DataW.trod enc P w base spare held n f3.type [v3] = some y3 ∧ DataW.trod enc P w base spare held n f4.type [v4] = some y4 := by
  obtain ⟨cs, rfl, hsz⟩ := okWide_struct hs hv
  obtain ⟨c0, c1, c2, c3, c4, rfl⟩ := array5 (hsz.trans hC)
  obtain ⟨fuel, hf⟩ := h
  obtain ⟨y0, y1, y2, y3, y4, n, hx, _, h0, h1, h2, h3, h4⟩ := trod_struct5 hs hf
  obtain ⟨o0, k0⟩ := hone_of hone 0 f0 rfl
  obtain ⟨o1, k1⟩ := hone_of hone 1 f1 rfl
  obtain ⟨o2, k2⟩ := hone_of hone 2 f2 rfl
  obtain ⟨o3, k3⟩ := hone_of hone 3 f3 rfl
  obtain ⟨o4, k4⟩ := hone_of hone 4 f4 rfl
  simp only [Prod.mk.injEq] at hx
  exact ⟨c0, c1, c2, c3, c4, y0, y1, y2, y3, y4, n, rfl, hx.1, hx.2, by simpa [Value.cells, o0, k0] using h0, by simpa [Value.cells, o1, k1] using h1, by simpa [Value.cells, o2, k2] using h2, by simpa [Value.cells, o3, k3] using h3, by simpa [Value.cells, o4, k4] using h4⟩
theorem array7 {α : Type} {cs : Array α} (h : cs.size = 7) : ∃ c0 c1 c2 c3 c4 c5 c6, cs = #[c0, c1, c2, c3, c4, c5, c6] := by
  obtain ⟨l⟩ := cs
  match l, h with
  | [c0, c1, c2, c3, c4, c5, c6], _ => exact ⟨c0, c1, c2, c3, c4, c5, c6, rfl⟩
theorem trod_struct7 {t : TypeId} {f0 f1 f2 f3 f4 f5 f6 : Field} {fuel : Nat} {cs : List Value} {x : DataW H × List MemPlace} (ht : P.underlying t = some (.struct #[f0, f1, f2, f3, f4, f5, f6])) (h : DataW.trod enc P w base spare held fuel t cs = some x) :
    ∃ y0 y1 y2 y3 y4 y5 y6 n, x = (.agg [y0.1, y1.1, y2.1, y3.1, y4.1, y5.1, y6.1], y0.2 ++ (y1.2 ++ (y2.2 ++ (y3.2 ++ (y4.2 ++ (y5.2 ++ y6.2)))))) ∧ cs.length = P.cellsOf t ∧ DataW.trod enc P w base spare held n f0.type ((cs.drop f0.offset).take (P.cellsOf f0.type)) = some y0 ∧ DataW.trod enc P w base spare held n f1.type ((cs.drop f1.offset).take (P.cellsOf f1.type)) = some y1 ∧ DataW.trod enc P w base spare held n f2.type ((cs.drop f2.offset).take (P.cellsOf f2.type)) = some y2 ∧ DataW.trod enc P w base spare held n f3.type ((cs.drop f3.offset).take (P.cellsOf f3.type)) = some y3 ∧ DataW.trod enc P w base spare held n f4.type ((cs.drop f4.offset).take (P.cellsOf f4.type)) = some y4 ∧ DataW.trod enc P w base spare held n f5.type ((cs.drop f5.offset).take (P.cellsOf f5.type)) = some y5 ∧ DataW.trod enc P w base spare held n f6.type ((cs.drop f6.offset).take (P.cellsOf f6.type)) = some y6 := by
  obtain ⟨xs, n, _, rfl, hl, hlen, hf⟩ := DataW.trod_struct ht h
  match xs, hlen with
  | [y0, y1, y2, y3, y4, y5, y6], _ => exact ⟨y0, y1, y2, y3, y4, y5, y6, n, by simp, hl, by simpa using hf 0 f0 rfl, by simpa using hf 1 f1 rfl, by simpa using hf 2 f2 rfl, by simpa using hf 3 f3 rfl, by simpa using hf 4 f4 rfl, by simpa using hf 5 f5 rfl, by simpa using hf 6 f6 rfl⟩
theorem open_agg7 {r : Reach} {b0 : Nat} {t : TypeId} {f0 f1 f2 f3 f4 f5 f6 : Field} {v : Value} {d : DataW H} {p : List MemPlace} (hs : P.underlying t = some (.struct #[f0, f1, f2, f3, f4, f5, f6])) (hone : oneCellFields P #[f0, f1, f2, f3, f4, f5, f6] = true) (hC : P.cellsOf t = 7)
    (hv : Value.okWide P w r b0 t v) (h : DataW.Trod enc P w base spare held t v d p) :
    ∃ (v0 v1 v2 v3 v4 v5 v6 : Value) (y0 y1 y2 y3 y4 y5 y6 : DataW H × List MemPlace) (n : Nat), v = .agg #[v0, v1, v2, v3, v4, v5, v6] ∧ d = .agg [y0.1, y1.1, y2.1, y3.1, y4.1, y5.1, y6.1] ∧ p = y0.2 ++ (y1.2 ++ (y2.2 ++ (y3.2 ++ (y4.2 ++ (y5.2 ++ y6.2))))) ∧ DataW.trod enc P w base spare held n f0.type [v0] = some y0 ∧ DataW.trod enc P w base spare held n f1.type [v1] = some y1 ∧ DataW.trod enc P w base spare held n f2.type [v2] = some y2 ∧ DataW.trod enc P w base spare held n f3.type [v3] = some y3 ∧ DataW.trod enc P w base spare held n f4.type [v4] = some y4 ∧ DataW.trod enc P w base spare held n f5.type [v5] = some y5 ∧ DataW.trod enc P w base spare held n f6.type [v6] = some y6 := by
  obtain ⟨cs, rfl, hsz⟩ := okWide_struct hs hv
  obtain ⟨c0, c1, c2, c3, c4, c5, c6, rfl⟩ := array7 (hsz.trans hC)
  obtain ⟨fuel, hf⟩ := h
  obtain ⟨y0, y1, y2, y3, y4, y5, y6, n, hx, _, h0, h1, h2, h3, h4, h5, h6⟩ := trod_struct7 hs hf
  obtain ⟨o0, k0⟩ := hone_of hone 0 f0 rfl
  obtain ⟨o1, k1⟩ := hone_of hone 1 f1 rfl
  obtain ⟨o2, k2⟩ := hone_of hone 2 f2 rfl
  obtain ⟨o3, k3⟩ := hone_of hone 3 f3 rfl
  obtain ⟨o4, k4⟩ := hone_of hone 4 f4 rfl
  obtain ⟨o5, k5⟩ := hone_of hone 5 f5 rfl
  obtain ⟨o6, k6⟩ := hone_of hone 6 f6 rfl
  simp only [Prod.mk.injEq] at hx
  exact ⟨c0, c1, c2, c3, c4, c5, c6, y0, y1, y2, y3, y4, y5, y6, n, rfl, hx.1, hx.2, by simpa [Value.cells, o0, k0] using h0, by simpa [Value.cells, o1, k1] using h1, by simpa [Value.cells, o2, k2] using h2, by simpa [Value.cells, o3, k3] using h3, by simpa [Value.cells, o4, k4] using h4, by simpa [Value.cells, o5, k5] using h5, by simpa [Value.cells, o6, k6] using h6⟩
end
end Go.Proofs.YtlldgfejcjnpkaaGreat
/- The cyclic check by bits: plain. -/
namespace Go.Proofs.YtlldgfejcjnpkaaGreat

/-- One bit is shifted out. -/
def crcZ (r : BitVec 32) : BitVec 32 := (r <<< 1) ^^^ (if r.msb then 0x1edc6f41#32 else 0#32)
/-- n bits are shifted out. -/
def crcZn : Nat → BitVec 32 → BitVec 32
  | 0, r => r
  | n + 1, r => crcZn n (crcZ r)
/-- A byte. -/
def crcByte (s : BitVec 32) (c : UInt8) : BitVec 32 := crcZn 8 (s ^^^ (c.toBitVec.setWidth 32 <<< 24))
/-- Bytes. -/
def crcOf (s : BitVec 32) (l : List UInt8) : BitVec 32 := l.foldl crcByte s
/-- The four bytes of a word. -/
def wordOf (s : BitVec 32) : List UInt8 := [⟨(s >>> 24).setWidth 8⟩, ⟨(s >>> 16).setWidth 8⟩, ⟨(s >>> 8).setWidth 8⟩, ⟨s.setWidth 8⟩]
/-- Sealed. -/
def sealM (l : List UInt8) : List UInt8 := l ++ wordOf (crcOf 0#32 l)
/-- The word of four bytes. -/
def ofWord (a b c d : UInt8) : BitVec 32 := (a.toBitVec.setWidth 32 <<< 24) ^^^ (b.toBitVec.setWidth 32 <<< 16) ^^^ (c.toBitVec.setWidth 32 <<< 8) ^^^ d.toBitVec.setWidth 32

theorem crcZ_zero : crcZ 0#32 = 0#32 := by decide
theorem crcZ_xor (a b : BitVec 32) : crcZ (a ^^^ b) = crcZ a ^^^ crcZ b := by
  unfold crcZ
  rw [BitVec.msb_xor, BitVec.shiftLeft_xor_distrib]
  have lc : ∀ x y z : BitVec 32, x ^^^ (y ^^^ z) = y ^^^ (x ^^^ z) := fun x y z => by rw [← BitVec.xor_assoc, BitVec.xor_comm x y, BitVec.xor_assoc]
  cases a.msb <;> cases b.msb <;> simp [BitVec.xor_assoc, lc, BitVec.xor_comm]
theorem crcZn_xor (n : Nat) (a b : BitVec 32) : crcZn n (a ^^^ b) = crcZn n a ^^^ crcZn n b := by
  induction n generalizing a b with
  | zero => rfl
  | succ n ih => rw [crcZn, crcZn, crcZn, crcZ_xor, ih]
theorem crcZn_add (m n : Nat) (a : BitVec 32) : crcZn (m + n) a = crcZn n (crcZn m a) := by
  induction m generalizing a with
  | zero => rw [Nat.zero_add]; rfl
  | succ m ih => rw [Nat.add_right_comm, crcZn, ih]; rfl
theorem crcZn_succ (n : Nat) (a : BitVec 32) : crcZ (crcZn n a) = crcZn n (crcZ a) := (crcZn_add n 1 a).symm.trans (by rw [Nat.add_comm, crcZn_add]; rfl)
theorem crcZ_inj (a : BitVec 32) (h : crcZ a = 0#32) : a = 0#32 := by
  unfold crcZ at h
  cases hm : a.msb with
  | true =>
    have h0 := congrArg (fun x => BitVec.getLsbD x 0) h
    simp [hm] at h0
  | false =>
    rw [hm] at h
    have h1 := congrArg BitVec.toNat h
    have h2 := BitVec.msb_eq_decide a
    rw [hm] at h2
    simp at h1 h2
    apply BitVec.eq_of_toNat_eq
    simp
    have := a.isLt
    omega
theorem crcZn_inj (n : Nat) (a : BitVec 32) (h : crcZn n a = 0#32) : a = 0#32 := by
  induction n generalizing a with
  | zero => exact h
  | succ n ih => exact crcZ_inj a (ih _ h)

/-- A bit at the foot. -/
def bit0 (b : Bool) : BitVec 32 := if b then 1#32 else 0#32
/-- By definition: bits come in at the foot. -/
def crcDef (r : BitVec 32) (l : List Bool) : BitVec 32 := l.foldl (fun r b => crcZ r ^^^ bit0 b) r
/-- A byte's bits, the highest first. -/
def bitsOf (c : UInt8) : List Bool := [c.toBitVec.getLsbD 7, c.toBitVec.getLsbD 6, c.toBitVec.getLsbD 5, c.toBitVec.getLsbD 4, c.toBitVec.getLsbD 3, c.toBitVec.getLsbD 2, c.toBitVec.getLsbD 1, c.toBitVec.getLsbD 0]
theorem crcDef_append (r : BitVec 32) (l m : List Bool) : crcDef r (l ++ m) = crcDef (crcDef r l) m := by simp [crcDef]
theorem crcDef_zeros (n : Nat) (r : BitVec 32) : crcDef r (List.replicate n false) = crcZn n r := by
  induction n generalizing r with
  | zero => rfl
  | succ n ih =>
    have : crcDef r (List.replicate (n + 1) false) = crcDef (crcZ r ^^^ 0#32) (List.replicate n false) := rfl
    rw [this, ih, BitVec.xor_zero]
    rfl
theorem crcDef_lin (r s : BitVec 32) (l : List Bool) : crcDef (r ^^^ s) l = crcZn l.length r ^^^ crcDef s l := by
  induction l generalizing r s with
  | nil => rfl
  | cons b l ih =>
    have e1 : crcDef (r ^^^ s) (b :: l) = crcDef (crcZ (r ^^^ s) ^^^ bit0 b) l := rfl
    have e2 : crcDef s (b :: l) = crcDef (crcZ s ^^^ bit0 b) l := rfl
    rw [e1, e2, crcZ_xor, BitVec.xor_assoc, ih]
    rfl
theorem bits_all : (List.range 256).all (fun n => crcZn 8 ((UInt8.ofNat n).toBitVec.setWidth 32 <<< 24) == crcZn 32 (crcDef 0#32 (bitsOf (UInt8.ofNat n)))) = true := by
  kernel_rfl
theorem bits_one (c : UInt8) : crcZn 8 (c.toBitVec.setWidth 32 <<< 24) = crcZn 32 (crcDef 0#32 (bitsOf c)) := by
  have h := List.all_eq_true.1 bits_all c.toNat (List.mem_range.2 c.toNat_lt)
  rw [UInt8.ofNat_toNat] at h
  exact eq_of_beq h
theorem crcByte_def (r : BitVec 32) (c : UInt8) : crcByte (crcZn 32 r) c = crcZn 32 (crcDef r (bitsOf c)) := by
  have h := crcDef_lin r 0#32 (bitsOf c)
  rw [BitVec.xor_zero] at h
  rw [h, crcZn_xor]
  unfold crcByte
  rw [crcZn_xor, bits_one, ← crcZn_add, ← crcZn_add]
  rfl
theorem crcOf_def (r : BitVec 32) (l : List UInt8) : crcOf (crcZn 32 r) l = crcZn 32 (crcDef r (l.flatMap bitsOf)) := by
  induction l generalizing r with
  | nil => rfl
  | cons c l ih =>
    have : crcOf (crcZn 32 r) (c :: l) = crcOf (crcByte (crcZn 32 r) c) l := rfl
    rw [this, crcByte_def, ih, List.flatMap_cons, crcDef_append]
/-- The check by definition is the check by bytes. -/
theorem crc_same (l : List UInt8) : crcDef 0#32 ((l ++ [0, 0, 0, 0]).flatMap bitsOf) = crcOf 0#32 l := by
  have h0 : crcZn 32 0#32 = 0#32 := by kernel_rfl
  have h := crcOf_def 0#32 l
  rw [h0] at h
  rw [h, List.flatMap_append, crcDef_append]
  exact crcDef_zeros 32 _

theorem shl_z (n : Nat) (x : BitVec 8) : n ≤ 2 → crcZn 8 (x.setWidth 32 <<< (8 * n)) = x.setWidth 32 <<< (8 * n + 8) := by
  intro hn
  have key : ∀ (k m : Nat), m + k ≤ 24 → crcZn k (x.setWidth 32 <<< m) = x.setWidth 32 <<< (m + k) := by
    intro k
    induction k with
    | zero => intro m _; rfl
    | succ k ih =>
      intro m hm
      have hmsb : (x.setWidth 32 <<< m).msb = false := by
        rw [BitVec.msb_eq_getLsbD_last]
        simp
        intro h1
        apply BitVec.getLsbD_of_ge
        omega
      have hz : crcZ (x.setWidth 32 <<< m) = x.setWidth 32 <<< (m + 1) := by
        unfold crcZ
        rw [hmsb]
        simp [BitVec.shiftLeft_add]
      rw [crcZn, hz, ih (m + 1) (by omega)]
      congr 1
      omega
  have := key 8 (8 * n) (by omega)
  exact this
theorem crcOf_four (s : BitVec 32) (a b c d : UInt8) : crcOf s [a, b, c, d] = crcZn 32 (s ^^^ ofWord a b c d) := by
  have e : crcOf s [a, b, c, d] = crcByte (crcByte (crcByte (crcByte s a) b) c) d := rfl
  have hb := shl_z 2 b.toBitVec (by omega)
  have hc1 := shl_z 1 c.toBitVec (by omega)
  have hc2 := shl_z 2 c.toBitVec (by omega)
  have hd0 := shl_z 0 d.toBitVec (by omega)
  have hd1 := shl_z 1 d.toBitVec (by omega)
  have hd2 := shl_z 2 d.toBitVec (by omega)
  simp only [Nat.mul_zero, Nat.zero_add, Nat.reduceMul, Nat.reduceAdd, BitVec.shiftLeft_zero] at hb hc1 hc2 hd0 hd1 hd2
  rw [e]
  unfold crcByte ofWord
  rw [← hb, ← hc2, ← hc1, ← hd2, ← hd1, ← hd0]
  have e4 : ∀ x : BitVec 32, crcZn 32 x = crcZn 8 (crcZn 8 (crcZn 8 (crcZn 8 x))) := fun x => by rw [← crcZn_add, ← crcZn_add, ← crcZn_add]
  rw [e4]
  simp only [crcZn_xor, BitVec.xor_assoc]
theorem ofWord_wordOf (s : BitVec 32) : ofWord ⟨(s >>> 24).setWidth 8⟩ ⟨(s >>> 16).setWidth 8⟩ ⟨(s >>> 8).setWidth 8⟩ ⟨s.setWidth 8⟩ = s := by
  apply BitVec.eq_of_getLsbD_eq
  intro i hi
  unfold ofWord
  simp only [BitVec.getLsbD_xor, BitVec.getLsbD_shiftLeft, BitVec.getLsbD_setWidth, BitVec.getLsbD_ushiftRight]
  by_cases h8 : i < 8
  · have : i < 32 := hi
    simp [h8, hi, show i < 16 by omega, show i < 24 by omega]
  · by_cases h16 : i < 16
    · simp [h8, hi, h16, show i < 24 by omega, show i - 8 < 8 by omega, show 8 + (i - 8) = i by omega, show i - 8 < 32 by omega]
    · by_cases h24 : i < 24
      · simp [h8, hi, h16, h24, show ¬ (i - 8 < 8) by omega, show i - 16 < 8 by omega, show 16 + (i - 16) = i by omega, show i - 16 < 32 by omega]
      · simp [h8, hi, h16, h24, show ¬ (i - 8 < 8) by omega, show ¬ (i - 16 < 8) by omega, show i - 24 < 8 by omega, show 24 + (i - 24) = i by omega, show i - 24 < 32 by omega]
theorem u8_ext (u v : UInt8) (h : ∀ i, i < 8 → u.toBitVec.getLsbD i = v.toBitVec.getLsbD i) : u = v := UInt8.toBitVec_inj.1 (BitVec.eq_of_getLsbD_eq h)
theorem wordOf_ofWord (a b c d : UInt8) : wordOf (ofWord a b c d) = [a, b, c, d] := by
  have far : ∀ (x : UInt8) (i : Nat), 8 ≤ i → x.toBitVec.getLsbD i = false := fun x i h => BitVec.getLsbD_of_ge _ _ h
  have bit : ∀ j, (ofWord a b c d).getLsbD j = (j < 32 && !decide (j < 24) && a.toBitVec.getLsbD (j - 24) ^^ (j < 32 && !decide (j < 16) && b.toBitVec.getLsbD (j - 16)) ^^ (j < 32 && !decide (j < 8) && c.toBitVec.getLsbD (j - 8)) ^^ (j < 32 && d.toBitVec.getLsbD j)) := by
    intro j
    unfold ofWord
    simp only [BitVec.getLsbD_xor, BitVec.getLsbD_shiftLeft, BitVec.getLsbD_setWidth]
    by_cases h : j < 32
    · simp [h, show j - 24 < 32 by omega, show j - 16 < 32 by omega, show j - 8 < 32 by omega]
    · simp [h]
  have h1 : (⟨(ofWord a b c d >>> 24).setWidth 8⟩ : UInt8) = a := u8_ext _ _ fun i hi => by
    simp only [BitVec.getLsbD_setWidth, BitVec.getLsbD_ushiftRight, bit]
    simp [hi, show 24 + i < 32 by omega, show ¬ (24 + i < 16) by omega, show ¬ (24 + i < 8) by omega, far b (24 + i - 16) (by omega), far c (24 + i - 8) (by omega), far d (24 + i) (by omega)]
  have h2 : (⟨(ofWord a b c d >>> 16).setWidth 8⟩ : UInt8) = b := u8_ext _ _ fun i hi => by
    simp only [BitVec.getLsbD_setWidth, BitVec.getLsbD_ushiftRight, bit]
    simp [hi, show 16 + i < 32 by omega, show 16 + i < 24 by omega, show ¬ (16 + i < 8) by omega, far c (16 + i - 8) (by omega), far d (16 + i) (by omega)]
  have h3 : (⟨(ofWord a b c d >>> 8).setWidth 8⟩ : UInt8) = c := u8_ext _ _ fun i hi => by
    simp only [BitVec.getLsbD_setWidth, BitVec.getLsbD_ushiftRight, bit]
    simp [hi, show 8 + i < 32 by omega, show 8 + i < 24 by omega, show 8 + i < 16 by omega]
  have h4 : (⟨(ofWord a b c d).setWidth 8⟩ : UInt8) = d := u8_ext _ _ fun i hi => by
    simp only [BitVec.getLsbD_setWidth, bit]
    simp [hi, show i < 32 by omega, show i < 24 by omega, show i < 16 by omega]
  unfold wordOf
  rw [h1, h2, h3, h4]
theorem ofWord_inj {a b c d : UInt8} {s : BitVec 32} : ofWord a b c d = s ↔ [a, b, c, d] = wordOf s := by
  constructor
  · intro h; rw [← h, wordOf_ofWord]
  · intro h
    injection h with h1 h; injection h with h2 h; injection h with h3 h; injection h with h4 _
    rw [h1, h2, h3, h4, ofWord_wordOf]
/-- Sealed: the check over all is zero just where the trailer is the check's word. -/
theorem crc_valid (l : List UInt8) (a b c d : UInt8) : crcOf 0#32 (l ++ [a, b, c, d]) = 0#32 ↔ [a, b, c, d] = wordOf (crcOf 0#32 l) := by
  have e : crcOf 0#32 (l ++ [a, b, c, d]) = crcOf (crcOf 0#32 l) [a, b, c, d] := by simp [crcOf]
  rw [e, crcOf_four]
  constructor
  · intro h
    have h1 := crcZn_inj 32 _ h
    apply ofWord_inj.1
    have h2 := congrArg (crcOf 0#32 l ^^^ ·) h1
    simp only [← BitVec.xor_assoc, BitVec.xor_self, BitVec.zero_xor, BitVec.xor_zero] at h2
    exact h2
  · intro h
    have h1 := ofWord_inj.2 h
    rw [h1, BitVec.xor_self]
    have h0 : crcZn 32 0#32 = 0#32 := by kernel_rfl
    exact h0
end Go.Proofs.YtlldgfejcjnpkaaGreat
/- The contracts of package meter, as the layers above use it. -/
namespace Go.Proofs.YtlldgfejcjnpkaaGreat
open Go.RowKit

section
variable {P : Program} {f : FuncId} {fn : Func}
theorem run_call_load_ptr (hf : P.funcs[f]? = some fn) (hname : (fn.name == "runtime.NumGoroutine") = false) (hb : fn.body.isNone = true) (hn : Extern.findNext fn = none)
    (he : Extern.find fn = some (Extern.Atomic.loadT .ptr)) {a : Addr} {x : Option Addr} {w : World} (hc : w.cell? a = some (.pointer x)) :
    (callFunc f #[.pointer (some a)]).run P w = .ok (.value (.pointer x)) w := by
  rw [run_callFunc_extern hf hname hb hn he]
  change (Sem.run P (do Extern.Atomic.read .ptr (← asAddr (.pointer (some a)))) w).andThen _ = _
  simp [Extern.Atomic.read, asAddr, hc, Result.andThen]
theorem run_call_swap_ptr (hf : P.funcs[f]? = some fn) (hname : (fn.name == "runtime.NumGoroutine") = false) (hb : fn.body.isNone = true) (hn : Extern.findNext fn = none)
    (he : Extern.find fn = some (Extern.Atomic.swapT .ptr)) {a : Addr} {x y : Option Addr} {w : World} (hc : w.cell? a = some (.pointer x)) (hz : w.frozen? a = false) :
    (callFunc f #[.pointer (some a), .pointer y]).run P w = .ok (.value (.pointer x)) (w.setCell a (.pointer y)) := by
  rw [run_callFunc_extern hf hname hb hn he]
  change (Sem.run P (do
    let a' ← asAddr (.pointer (some a))
    let old ← Extern.Atomic.read .ptr a'
    store a' (.pointer y) .atomic
    pure old) w).andThen _ = _
  simp [Extern.Atomic.read, asAddr, hc, hz, run_store P w a (.pointer y) .atomic rfl, Result.andThen]
theorem shape_of_blk {w : World} {g : Nat} {t : TypeId} {cs : Array Value} (h : Blk w g t cs) : w.shape? g = some (t, cs.size) := by
  unfold Blk at h
  simp [World.shape?, h]
/-- An unsafe pointer back to a pointer to the very type of the block. -/
theorem run_from_unsafe {src dst u : TypeId} (hs : P.underlying src = some .unsafePointer) (hd : P.underlying dst = some (.pointer u)) (hsz : (P.info? u).map (fun i => decide (i.size = 0)) = some false) {w : World} {g : Nat} {cs : Array Value} (hb : Blk w g u cs)
    (hl : liesAt P P.depth u (cs.size / P.cellsOf u) 0 u 1 = true) : (convert src dst (.pointer (some ⟨g, 0, none⟩))).run P w = .ok (.pointer (some ⟨g, 0, none⟩)) w := by
  have hsh := shape_of_blk hb
  obtain ⟨i, hi, hz0⟩ := Option.map_eq_some_iff.1 hsz
  have hz : i.size ≠ 0 := by simpa using hz0
  simp [convert, Conv.unsafePointer, Conv.seenAt, viewAt, sizeOf, typeInfo, run_underlying hs, run_underlying hd, hi, hz, hsh, variablesAt, hl, Result.andThen]
theorem run_from_unsafe_nil {src dst u : TypeId} (hs : P.underlying src = some .unsafePointer) (hd : P.underlying dst = some (.pointer u)) (w : World) : (convert src dst (.pointer none)).run P w = .ok (.pointer none) w := by
  simp [convert, Conv.unsafePointer, run_underlying hs, run_underlying hd, Result.andThen]
end

def meterCells (n : Int) (last : Option Addr) : Array Value := #[.int .u64 n, .int .i64 0, .int .u32 0, .int .u32 0, .int .u32 0, .pointer last]
/-- A record: its number, code, session, number. -/
structure Rec where
  at_ : Int
  code : Int
  s : Int
  k : Int
  deriving DecidableEq
def Rec.cells (r : Rec) : Array Value := #[.int .i64 r.at_, .int .i64 r.code, .int .u32 r.s, .int .u32 r.k]
def Rec.zero : Rec := ⟨0, 0, 0, 0⟩
/-- Where a meter's last record lies: p is the pointer's value. -/
def LastAt (w : World) (p : Option Addr) (r : Option Rec) : Prop :=
  (r = none ∧ p = none) ∨ ∃ g x, r = some x ∧ p = some ⟨g, 0, none⟩ ∧ Blk w g 202 x.cells
theorem LastAt.keep {w w' : World} {p : Option Addr} {r : Option Rec} {S : Nat → Prop} (h : LastAt w p r) (hk : Keep S w w') (hS : ∀ g x, p = some ⟨g, 0, none⟩ → Blk w g 202 x → ¬ S g) : LastAt w' p r := by
  rcases h with h | ⟨g, x, h1, h2, h3⟩
  · exact .inl h
  · exact .inr ⟨g, x, h1, h2, h3.keep hk (hS g _ h2 h3)⟩

set_option maxHeartbeats 400000
set_option maxRecDepth 100000

theorem meterNew_any (w : World) : Calls Tryz.prog 83 #[] w fun e w' => e = .returned (.pointer (some ⟨w.heap.size, 0, none⟩)) ∧ w' = w.alloc (.cells (meterCells 0 none) 241) := by
  go_enter Tryz.func83, Tryz.ntmps83
  go_wp2
  go_ret
  exact ⟨rfl, rfl⟩

theorem meterAdd_one (b : Nat) (n : Int) (last : Option Addr) (w : World) (hn : 0 ≤ n) (hm : n < 4294967296) (h : Blk w b 241 (meterCells n last)) :
    Calls Tryz.prog 81 #[.pointer (some ⟨b, 0, none⟩), .int .u64 1] w fun e w' => e = .returned (.tuple #[.int .u64 (n + 1), .int .i64 0]) ∧ w' = w.setCell ⟨b, 0, none⟩ (.int .u64 (n + 1)) := by
  have hc : w.cell? ⟨b, 0, none⟩ = some (.int .u64 n) := (h.cell 0).trans rfl
  have hz := h.frozen 0
  have hl := run_call_load (P := Tryz.prog) Tryz.func179 (by kernel_rfl) (by kernel_rfl) (by kernel_rfl) .u64 (by kernel_rfl) hc
  have hcas := run_call_cas_hit (P := Tryz.prog) Tryz.func180 (by kernel_rfl) (by kernel_rfl) (by kernel_rfl) .u64 (by kernel_rfl) (y := n+1) hc hz
  go_enter Tryz.func81, Tryz.ntmps81
  go_wp2
  refine wp_loop_rounds 1 ?_
  rw [rounds_succ]
  go_wp2
  go_ret2
  exact ⟨rfl, rfl⟩

theorem meterTotal_any (b : Nat) (n : Int) (last : Option Addr) (w : World) (h : Blk w b 241 (meterCells n last)) :
    Calls Tryz.prog 84 #[.pointer (some ⟨b, 0, none⟩)] w fun e w' => e = .returned (.int .u64 n) ∧ w' = w := by
  have hc : w.cell? ⟨b, 0, none⟩ = some (.int .u64 n) := (h.cell 0).trans rfl
  have hl := run_call_load (P := Tryz.prog) Tryz.func179 (by kernel_rfl) (by kernel_rfl) (by kernel_rfl) .u64 (by kernel_rfl) hc
  go_enter Tryz.func84, Tryz.ntmps84
  go_wp2
  go_ret
  exact ⟨rfl, rfl⟩

theorem meterTotal_nil (w : World) : Calls Tryz.prog 84 #[.pointer none] w fun e w' => e = .returned (.int .u64 0) ∧ w' = w := by
  go_enter Tryz.func84, Tryz.ntmps84
  go_wp2
  go_ret
  exact ⟨rfl, rfl⟩

theorem ptrSwap_any (b : Nat) (n : Int) (last : Option Addr) (r : Option Rec) (g : Nat) (x : Rec) (w : World) (h : Blk w b 241 (meterCells n last)) (hg : Blk w g 202 x.cells) (hl : LastAt w last r) :
    Calls Tryz.prog 153 #[.pointer (some ⟨b, 5, none⟩), .pointer (some ⟨g, 0, none⟩)] w fun e w' => e = .returned (.pointer last) ∧ w' = w.setCell ⟨b, 5, none⟩ (.pointer (some ⟨g, 0, none⟩)) := by
  have hc : w.cell? ⟨b, 5, none⟩ = some (.pointer last) := (h.cell 5).trans rfl
  have hz := h.frozen 5
  have hcas := run_call_swap_ptr (P := Tryz.prog) Tryz.func192 (by kernel_rfl) (by kernel_rfl) (by kernel_rfl) (by kernel_rfl) (y := some ⟨g, 0, none⟩) hc hz
  have hto := run_convert_to_unsafe (P := Tryz.prog) Tryz.underlying235 Tryz.underlying237 (by kernel_rfl) (show w.cell? ⟨g, 0, none⟩ = some (.int .i64 x.at_) from (hg.cell 0).trans rfl)
  rcases hl with ⟨rfl, rfl⟩ | ⟨g', y, rfl, rfl, hB⟩
  · have hfrom := run_from_unsafe_nil (P := Tryz.prog) Tryz.underlying237 Tryz.underlying235
    go_enter Tryz.func153, Tryz.ntmps153
    go_wp2
    go_ret
    exact ⟨rfl, rfl⟩
  · have hB' := hB.far (p := ⟨b, 5, none⟩) (h.ne_ hB (by decide)).symm (.pointer (some ⟨g, 0, none⟩))
    have hfrom := run_from_unsafe (P := Tryz.prog) Tryz.underlying237 Tryz.underlying235 (by kernel_rfl) hB' (by kernel_rfl)
    go_enter Tryz.func153, Tryz.ntmps153
    go_wp2
    go_ret
    exact ⟨rfl, rfl⟩

theorem meterNote_any (b : Nat) (n : Int) (last : Option Addr) (r : Option Rec) (x : Rec) (w : World) (h : Blk w b 241 (meterCells n last)) (hl : LastAt w last r) :
    Calls Tryz.prog 105 #[.pointer (some ⟨b, 0, none⟩), .agg x.cells] w fun e w' => ∃ v, e = .returned v ∧
      LastAt w' (some ⟨w.heap.size, 0, none⟩) (some x) ∧ Blk w' b 241 (meterCells n (some ⟨w.heap.size, 0, none⟩)) ∧ Keep (· = b) w w' := by
  have hlt := h.lt
  unfold Rec.cells
  rcases hl with ⟨rfl, rfl⟩ | ⟨g', y, rfl, rfl, hB⟩
  · go_enter Tryz.func105, Tryz.ntmps105
    go_wp2_with (go_at_call 153; refine (ptrSwap_any b n _ none w.heap.size x _ ((h.alloc _).alloc _) ((Blk.new w _ _).alloc _) (.inl ⟨rfl, rfl⟩)).mono ?_; rintro e w' ⟨rfl, rfl⟩)
    refine bodyPost_ret (v := .tuple #[.agg #[.int .i64 0, .int .i64 0, .int .u32 0, .int .u32 0], .bool false]) (by simp [results, Tryz.results105, go_sem]) rfl ⟨_, rfl, ?_, ?_, ?_⟩
    · exact .inr ⟨_, x, rfl, rfl, (Blk.new' _ _ _ (by simp [World.setCell])).alloc _⟩
    · exact (((h.set_ 5 _).alloc _).alloc _)
    · exact (((Keep.refl (fun k => k = b) w).setCell (p := ⟨b, 5, none⟩) (fun _ => rfl) _).alloc _).alloc _
  · have hbn := h.ne_ hB (by decide)
    have hC : ∀ i, w.cell? ⟨g', i, none⟩ = (#[.int .i64 y.at_, .int .i64 y.code, .int .u32 y.s, .int .u32 y.k] : Array Value)[i]? := hB.cell
    have hS := fun (W : World) => cellS (g := g') W hbn
    have hA := fun (W : World) (hlt : g' < W.heap.size) => cellA hlt
    have hgl := hB.lt
    go_enter Tryz.func105, Tryz.ntmps105
    go_wp2_with (go_at_call 153; refine (ptrSwap_any b n _ (some y) w.heap.size x _ ((h.alloc _).alloc _) ((Blk.new w _ _).alloc _) (.inr ⟨g', y, rfl, rfl, (hB.alloc _).alloc _⟩)).mono ?_; rintro e w' ⟨rfl, rfl⟩)
    refine bodyPost_ret (v := .tuple #[.agg #[.int .i64 y.at_, .int .i64 y.code, .int .u32 y.s, .int .u32 y.k], .bool true]) (by simp [results, Tryz.results105, go_sem]) rfl ⟨_, rfl, ?_, ?_, ?_⟩
    · exact .inr ⟨_, x, rfl, rfl, (Blk.new' _ _ _ (by simp [World.setCell])).alloc _⟩
    · exact (((h.set_ 5 _).alloc _).alloc _)
    · exact (((Keep.refl (fun k => k = b) w).setCell (p := ⟨b, 5, none⟩) (fun _ => rfl) _).alloc _).alloc _

/-- What 'Last' answers. -/
def lastVal (r : Option Rec) : Value := match r with
  | none => .tuple #[.agg Rec.zero.cells, .bool false]
  | some x => .tuple #[.agg x.cells, .bool true]

end Go.Proofs.YtlldgfejcjnpkaaGreat
/- slices.Clone at this seat's instances. -/
namespace Go.Proofs.YtlldgfejcjnpkaaGreat
open Go.RowKit
set_option maxHeartbeats 400000
set_option maxRecDepth 100000
theorem own_base {w : World} {base base' : Nat} {e : TypeId} {size n : Nat} {v : Value} {xs : List Value} (h : w.ownsRow base e size v n xs) (hb : base' ≤ base) : w.ownsRow base' e size v n xs := by
  refine ⟨h.1, ?_⟩
  rcases h.2 with h | ⟨g, cap, cur, h1, h2, h3⟩
  · exact .inl h
  · exact .inr ⟨g, cap, cur, h1, by omega, h3⟩
theorem cloneRec_info : (Tryz.prog.info? 202).map (fun i => (i.zero, i.size, i.bytes)) = some (some (.agg #[.int .i64 0, .int .i64 0, .int .u32 0, .int .u32 0]), 4, 24) := by kernel_rfl
theorem cloneRec_any (A : Option Addr) (n c : Nat) (xs : List Value) (w : World) (hA : A = none → c = 0) (hr : Reads w w.heap.size 4 A n xs) (h1 : ∀ u ∈ xs, u.oneCell' = true) (hn : n ≤ 1000000) :
    Calls Tryz.prog 106 #[.slice A n c] w fun e w' => ∃ v, e = .returned v ∧ w'.ownsRow w.heap.size 202 4 v n xs ∧ Below w.heap.size w w' := by
  obtain ⟨i0, hi0, hz0, hz1, hz2⟩ := info_parts cloneRec_info
  cases A with
  | none =>
    obtain rfl := hA rfl
    have hn0 : n = 0 := by
      rcases Nat.eq_zero_or_pos n with h | h
      · exact h
      · obtain ⟨ad, h, _⟩ := hr.2 h; cases h
    subst hn0
    have hx : xs = [] := List.eq_nil_of_length_eq_zero (by simpa using hr.1)
    subst hx
    have he := fun (W : World) (a : Option Addr) (n c n' c' : Nat) => Lib.run_eql_slice_nil (P := Tryz.prog) W 87 202 a n c n' c' Tryz.underlying87
    go_enter Tryz.func106, Tryz.ntmps106
    go_wp2_with fail
    go_ret
    exact ⟨_, rfl, World.ownsRow_nil _ _ _ _, Below.refl _ _⟩
  | some ad =>
    have he := fun (W : World) (a : Option Addr) (n c n' c' : Nat) => Lib.run_eql_slice_nil (P := Tryz.prog) W 87 202 a n c n' c' Tryz.underlying87
    go_enter Tryz.func106, Tryz.ntmps106
    go_wp2_with (at_builtin; refine wpList_append_any _ rfl (.tmp 5) (.tmp 6) _ rfl w.heap.size 202 i0 _ 4 24 Tryz.underlying87 hi0 hz0 hz1 hz2 rfl (by omega) (.slice (some ⟨w.heap.size, 0, none⟩) 0 0) 0 [] rfl (World.ownsRow_made w #[] 0 (Nat.le_refl _) (by unfold maxLen; omega) rfl) w.heap.size (some ad) n c xs rfl (hr.alloc (Nat.le_refl _) _) h1 (by unfold maxLen; omega) (by omega) (by simp) ?_; intro v1 w1 hown1 hg1 hat1)
    go_ret
    exact ⟨_, rfl, by simpa using hown1, ((Below.refl _ _).alloc (Nat.le_refl _) _).grown hg1 (by simp) (fun k hk => by simp [Value.ownBlock] at hk; omega)⟩
end Go.Proofs.YtlldgfejcjnpkaaGreat
