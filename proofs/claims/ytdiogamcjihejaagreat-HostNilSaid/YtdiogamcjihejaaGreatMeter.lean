/- The contracts of package meter, as the layers above use it. -/
import Derived.Test.YtdiogamcjihejaaGreatProg
import Derived.Test.YtdiogamcjihejaaGreatMem
namespace Go.Proofs.YtdiogamcjihejaaGreat
open Go.RowKit

section
variable {P : Program} {f : FuncId} {fn : Func}
theorem run_call_load_ptr (hf : P.funcs[f]? = some fn) (hname : (fn.name == "runtime.NumGoroutine") = false) (hb : fn.body.isNone = true) (hn : Extern.findNext fn = none)
    (he : Extern.find fn = some (Extern.Atomic.loadT .ptr)) {a : Addr} {x : Option Addr} {w : World} (hc : w.cell? a = some (.pointer x)) :
    (callFunc f #[.pointer (some a)]).run P w = .ok (.value (.pointer x)) w := by
  rw [run_callFunc_extern hf hname hb hn he]
  change (Sem.run P (do Extern.Atomic.read .ptr (← asAddr (.pointer (some a)))) w).andThen _ = _
  simp [Extern.Atomic.read, asAddr, hc, Result.andThen]
theorem run_call_swap_ptr (hf : P.funcs[f]? = some fn) (hname : (fn.name == "runtime.NumGoroutine") = false) (hb : fn.body.isNone = true) (hn : Extern.findNext fn = none)
    (he : Extern.find fn = some (Extern.Atomic.swapT .ptr)) {a : Addr} {x y : Option Addr} {w : World} (hc : w.cell? a = some (.pointer x)) (hz : w.frozen? a = false) :
    (callFunc f #[.pointer (some a), .pointer y]).run P w = .ok (.value (.pointer x)) (w.setCell a (.pointer y)) := by
  rw [run_callFunc_extern hf hname hb hn he]
  change (Sem.run P (do
    let a' ← asAddr (.pointer (some a))
    let old ← Extern.Atomic.read .ptr a'
    store a' (.pointer y) .atomic
    pure old) w).andThen _ = _
  simp [Extern.Atomic.read, asAddr, hc, hz, run_store P w a (.pointer y) .atomic rfl, Result.andThen]
theorem shape_of_blk {w : World} {g : Nat} {t : TypeId} {cs : Array Value} (h : Blk w g t cs) : w.shape? g = some (t, cs.size) := by
  unfold Blk at h
  simp [World.shape?, h]
/-- An unsafe pointer back to a pointer to the very type of the block. -/
theorem run_from_unsafe {src dst u : TypeId} (hs : P.underlying src = some .unsafePointer) (hd : P.underlying dst = some (.pointer u)) (hsz : (P.info? u).map (fun i => decide (i.size = 0)) = some false) {w : World} {g : Nat} {cs : Array Value} (hb : Blk w g u cs)
    (hl : liesAt P P.depth u (cs.size / P.cellsOf u) 0 u 1 = true) : (convert src dst (.pointer (some ⟨g, 0, none⟩))).run P w = .ok (.pointer (some ⟨g, 0, none⟩)) w := by
  have hsh := shape_of_blk hb
  obtain ⟨i, hi, hz0⟩ := Option.map_eq_some_iff.1 hsz
  have hz : i.size ≠ 0 := by simpa using hz0
  simp [convert, Conv.unsafePointer, Conv.seenAt, viewAt, sizeOf, typeInfo, run_underlying hs, run_underlying hd, hi, hz, hsh, variablesAt, hl, Result.andThen]
theorem run_from_unsafe_nil {src dst u : TypeId} (hs : P.underlying src = some .unsafePointer) (hd : P.underlying dst = some (.pointer u)) (w : World) : (convert src dst (.pointer none)).run P w = .ok (.pointer none) w := by
  simp [convert, Conv.unsafePointer, run_underlying hs, run_underlying hd, Result.andThen]
end

def meterCells (n : Int) (last : Option Addr) : Array Value := #[.int .u64 n, .int .i64 0, .int .u32 0, .int .u32 0, .int .u32 0, .pointer last]
/-- A record: its number, code, session, number. -/
structure Rec where
  at_ : Int
  code : Int
  s : Int
  k : Int
  deriving DecidableEq
def Rec.cells (r : Rec) : Array Value := #[.int .i64 r.at_, .int .i64 r.code, .int .u32 r.s, .int .u32 r.k]
def Rec.zero : Rec := ⟨0, 0, 0, 0⟩
/-- Where a meter's last record lies: p is the pointer's value. -/
def LastAt (w : World) (p : Option Addr) (r : Option Rec) : Prop :=
  (r = none ∧ p = none) ∨ ∃ g x, r = some x ∧ p = some ⟨g, 0, none⟩ ∧ Blk w g 193 x.cells
theorem LastAt.keep {w w' : World} {p : Option Addr} {r : Option Rec} {S : Nat → Prop} (h : LastAt w p r) (hk : Keep S w w') (hS : ∀ g x, p = some ⟨g, 0, none⟩ → Blk w g 193 x → ¬ S g) : LastAt w' p r := by
  rcases h with h | ⟨g, x, h1, h2, h3⟩
  · exact .inl h
  · exact .inr ⟨g, x, h1, h2, h3.keep hk (hS g _ h2 h3)⟩

set_option maxHeartbeats 400000
set_option maxRecDepth 100000

theorem meterNew_any (w : World) : Calls Tryz.prog 125 #[] w fun e w' => e = .returned (.pointer (some ⟨w.heap.size, 0, none⟩)) ∧ w' = w.alloc (.cells (meterCells 0 none) 240) := by
  go_enter Tryz.func125, Tryz.ntmps125
  go_wp2
  go_ret
  exact ⟨rfl, rfl⟩

theorem meterAdd_one (b : Nat) (n : Int) (last : Option Addr) (w : World) (hn : 0 ≤ n) (hm : n < 4294967296) (h : Blk w b 240 (meterCells n last)) :
    Calls Tryz.prog 139 #[.pointer (some ⟨b, 0, none⟩), .int .u64 1] w fun e w' => e = .returned (.tuple #[.int .u64 (n + 1), .int .i64 0]) ∧ w' = w.setCell ⟨b, 0, none⟩ (.int .u64 (n + 1)) := by
  have hc : w.cell? ⟨b, 0, none⟩ = some (.int .u64 n) := (h.cell 0).trans rfl
  have hz := h.frozen 0
  have hl := run_call_load (P := Tryz.prog) Tryz.func220 (by kernel_rfl) (by kernel_rfl) (by kernel_rfl) .u64 (by kernel_rfl) hc
  have hcas := run_call_cas_hit (P := Tryz.prog) Tryz.func221 (by kernel_rfl) (by kernel_rfl) (by kernel_rfl) .u64 (by kernel_rfl) (y := n+1) hc hz
  go_enter Tryz.func139, Tryz.ntmps139
  go_wp2
  refine wp_loop_rounds 1 ?_
  rw [rounds_succ]
  go_wp2
  go_ret2
  exact ⟨rfl, rfl⟩

theorem meterTotal_any (b : Nat) (n : Int) (last : Option Addr) (w : World) (h : Blk w b 240 (meterCells n last)) :
    Calls Tryz.prog 151 #[.pointer (some ⟨b, 0, none⟩)] w fun e w' => e = .returned (.int .u64 n) ∧ w' = w := by
  have hc : w.cell? ⟨b, 0, none⟩ = some (.int .u64 n) := (h.cell 0).trans rfl
  have hl := run_call_load (P := Tryz.prog) Tryz.func220 (by kernel_rfl) (by kernel_rfl) (by kernel_rfl) .u64 (by kernel_rfl) hc
  go_enter Tryz.func151, Tryz.ntmps151
  go_wp2
  go_ret
  exact ⟨rfl, rfl⟩

theorem meterTotal_nil (w : World) : Calls Tryz.prog 151 #[.pointer none] w fun e w' => e = .returned (.int .u64 0) ∧ w' = w := by
  go_enter Tryz.func151, Tryz.ntmps151
  go_wp2
  go_ret
  exact ⟨rfl, rfl⟩

theorem ptrSwap_any (b : Nat) (n : Int) (last : Option Addr) (r : Option Rec) (g : Nat) (x : Rec) (w : World) (h : Blk w b 240 (meterCells n last)) (hg : Blk w g 193 x.cells) (hl : LastAt w last r) :
    Calls Tryz.prog 190 #[.pointer (some ⟨b, 5, none⟩), .pointer (some ⟨g, 0, none⟩)] w fun e w' => e = .returned (.pointer last) ∧ w' = w.setCell ⟨b, 5, none⟩ (.pointer (some ⟨g, 0, none⟩)) := by
  have hc : w.cell? ⟨b, 5, none⟩ = some (.pointer last) := (h.cell 5).trans rfl
  have hz := h.frozen 5
  have hcas := run_call_swap_ptr (P := Tryz.prog) Tryz.func222 (by kernel_rfl) (by kernel_rfl) (by kernel_rfl) (by kernel_rfl) (y := some ⟨g, 0, none⟩) hc hz
  have hto := run_convert_to_unsafe (P := Tryz.prog) Tryz.underlying234 Tryz.underlying236 (by kernel_rfl) (show w.cell? ⟨g, 0, none⟩ = some (.int .i64 x.at_) from (hg.cell 0).trans rfl)
  rcases hl with ⟨rfl, rfl⟩ | ⟨g', y, rfl, rfl, hB⟩
  · have hfrom := run_from_unsafe_nil (P := Tryz.prog) Tryz.underlying236 Tryz.underlying234
    go_enter Tryz.func190, Tryz.ntmps190
    go_wp2
    go_ret
    exact ⟨rfl, rfl⟩
  · have hB' := hB.far (p := ⟨b, 5, none⟩) (h.ne_ hB (by decide)).symm (.pointer (some ⟨g, 0, none⟩))
    have hfrom := run_from_unsafe (P := Tryz.prog) Tryz.underlying236 Tryz.underlying234 (by kernel_rfl) hB' (by kernel_rfl)
    go_enter Tryz.func190, Tryz.ntmps190
    go_wp2
    go_ret
    exact ⟨rfl, rfl⟩

theorem meterNote_any (b : Nat) (n : Int) (last : Option Addr) (r : Option Rec) (x : Rec) (w : World) (h : Blk w b 240 (meterCells n last)) (hl : LastAt w last r) :
    Calls Tryz.prog 140 #[.pointer (some ⟨b, 0, none⟩), .agg x.cells] w fun e w' => ∃ v, e = .returned v ∧
      LastAt w' (some ⟨w.heap.size, 0, none⟩) (some x) ∧ Blk w' b 240 (meterCells n (some ⟨w.heap.size, 0, none⟩)) ∧ Keep (· = b) w w' := by
  have hlt := h.lt
  unfold Rec.cells
  rcases hl with ⟨rfl, rfl⟩ | ⟨g', y, rfl, rfl, hB⟩
  · go_enter Tryz.func140, Tryz.ntmps140
    go_wp2_with (go_at_call 190; refine (ptrSwap_any b n _ none w.heap.size x _ ((h.alloc _).alloc _) ((Blk.new w _ _).alloc _) (.inl ⟨rfl, rfl⟩)).mono ?_; rintro e w' ⟨rfl, rfl⟩)
    refine bodyPost_ret (v := .tuple #[.agg #[.int .i64 0, .int .i64 0, .int .u32 0, .int .u32 0], .bool false]) (by simp [results, Tryz.results140, go_sem]) rfl ⟨_, rfl, ?_, ?_, ?_⟩
    · exact .inr ⟨_, x, rfl, rfl, (Blk.new' _ _ _ (by simp [World.setCell])).alloc _⟩
    · exact (((h.set_ 5 _).alloc _).alloc _)
    · exact (((Keep.refl (fun k => k = b) w).setCell (p := ⟨b, 5, none⟩) (fun _ => rfl) _).alloc _).alloc _
  · have hbn := h.ne_ hB (by decide)
    have hC : ∀ i, w.cell? ⟨g', i, none⟩ = (#[.int .i64 y.at_, .int .i64 y.code, .int .u32 y.s, .int .u32 y.k] : Array Value)[i]? := hB.cell
    have hS := fun (W : World) => cellS (g := g') W hbn
    have hA := fun (W : World) (hlt : g' < W.heap.size) => cellA hlt
    have hgl := hB.lt
    go_enter Tryz.func140, Tryz.ntmps140
    go_wp2_with (go_at_call 190; refine (ptrSwap_any b n _ (some y) w.heap.size x _ ((h.alloc _).alloc _) ((Blk.new w _ _).alloc _) (.inr ⟨g', y, rfl, rfl, (hB.alloc _).alloc _⟩)).mono ?_; rintro e w' ⟨rfl, rfl⟩)
    refine bodyPost_ret (v := .tuple #[.agg #[.int .i64 y.at_, .int .i64 y.code, .int .u32 y.s, .int .u32 y.k], .bool true]) (by simp [results, Tryz.results140, go_sem]) rfl ⟨_, rfl, ?_, ?_, ?_⟩
    · exact .inr ⟨_, x, rfl, rfl, (Blk.new' _ _ _ (by simp [World.setCell])).alloc _⟩
    · exact (((h.set_ 5 _).alloc _).alloc _)
    · exact (((Keep.refl (fun k => k = b) w).setCell (p := ⟨b, 5, none⟩) (fun _ => rfl) _).alloc _).alloc _

/-- What 'Last' answers. -/
def lastVal (r : Option Rec) : Value := match r with
  | none => .tuple #[.agg Rec.zero.cells, .bool false]
  | some x => .tuple #[.agg x.cells, .bool true]

end Go.Proofs.YtdiogamcjihejaaGreat
