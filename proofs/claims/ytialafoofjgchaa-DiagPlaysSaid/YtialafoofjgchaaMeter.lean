/- The contracts of package meter, as the layers above use it. -/
import Derived.Test.YtialafoofjgchaaProg
import Derived.Test.YtialafoofjgchaaMem
namespace Go.Proofs.Ytialafoofjgchaa
open Go.RowKit

section
variable {P : Program} {f : FuncId} {fn : Func}
theorem run_call_load_ptr (hf : P.funcs[f]? = some fn) (hname : (fn.name == "runtime.NumGoroutine") = false) (hb : fn.body.isNone = true) (hn : Extern.findNext fn = none)
    (he : Extern.find fn = some (Extern.Atomic.loadT .ptr)) {a : Addr} {x : Option Addr} {w : World} (hc : w.cell? a = some (.pointer x)) :
    (callFunc f #[.pointer (some a)]).run P w = .ok (.value (.pointer x)) w := by
  rw [run_callFunc_extern hf hname hb hn he]
  change (Sem.run P (do Extern.Atomic.read .ptr (← asAddr (.pointer (some a)))) w).andThen _ = _
  simp [Extern.Atomic.read, asAddr, hc, Result.andThen]
theorem run_call_swap_ptr (hf : P.funcs[f]? = some fn) (hname : (fn.name == "runtime.NumGoroutine") = false) (hb : fn.body.isNone = true) (hn : Extern.findNext fn = none)
    (he : Extern.find fn = some (Extern.Atomic.swapT .ptr)) {a : Addr} {x y : Option Addr} {w : World} (hc : w.cell? a = some (.pointer x)) (hz : w.frozen? a = false) :
    (callFunc f #[.pointer (some a), .pointer y]).run P w = .ok (.value (.pointer x)) (w.setCell a (.pointer y)) := by
  rw [run_callFunc_extern hf hname hb hn he]
  change (Sem.run P (do
    let a' ← asAddr (.pointer (some a))
    let old ← Extern.Atomic.read .ptr a'
    store a' (.pointer y) .atomic
    pure old) w).andThen _ = _
  simp [Extern.Atomic.read, asAddr, hc, hz, run_store P w a (.pointer y) .atomic rfl, Result.andThen]
theorem shape_of_blk {w : World} {g : Nat} {t : TypeId} {cs : Array Value} (h : Blk w g t cs) : w.shape? g = some (t, cs.size) := by
  unfold Blk at h
  simp [World.shape?, h]
/-- An unsafe pointer back to a pointer to the very type of the block. -/
theorem run_from_unsafe {src dst u : TypeId} (hs : P.underlying src = some .unsafePointer) (hd : P.underlying dst = some (.pointer u)) (hsz : (P.info? u).map (fun i => decide (i.size = 0)) = some false) {w : World} {g : Nat} {cs : Array Value} (hb : Blk w g u cs)
    (hl : liesAt P P.depth u (cs.size / P.cellsOf u) 0 u 1 = true) : (convert src dst (.pointer (some ⟨g, 0, none⟩))).run P w = .ok (.pointer (some ⟨g, 0, none⟩)) w := by
  have hsh := shape_of_blk hb
  obtain ⟨i, hi, hz0⟩ := Option.map_eq_some_iff.1 hsz
  have hz : i.size ≠ 0 := by simpa using hz0
  simp [convert, Conv.unsafePointer, Conv.seenAt, viewAt, sizeOf, typeInfo, run_underlying hs, run_underlying hd, hi, hz, hsh, variablesAt, hl, Result.andThen]
theorem run_from_unsafe_nil {src dst u : TypeId} (hs : P.underlying src = some .unsafePointer) (hd : P.underlying dst = some (.pointer u)) (w : World) : (convert src dst (.pointer none)).run P w = .ok (.pointer none) w := by
  simp [convert, Conv.unsafePointer, run_underlying hs, run_underlying hd, Result.andThen]
end

def meterCells (n : Int) (last : Option Addr) : Array Value := #[.int .u64 n, .int .i64 0, .int .u32 0, .int .u32 0, .int .u32 0, .pointer last]
/-- A record: its number, code, session, number. -/
structure Rec where
  at_ : Int
  code : Int
  s : Int
  k : Int
  deriving DecidableEq
def Rec.cells (r : Rec) : Array Value := #[.int .i64 r.at_, .int .i64 r.code, .int .u32 r.s, .int .u32 r.k]
def Rec.zero : Rec := ⟨0, 0, 0, 0⟩
/-- Where a meter's last record lies: p is the pointer's value. -/
def LastAt (w : World) (p : Option Addr) (r : Option Rec) : Prop :=
  (r = none ∧ p = none) ∨ ∃ g x, r = some x ∧ p = some ⟨g, 0, none⟩ ∧ Blk w g 34 x.cells
theorem LastAt.keep {w w' : World} {p : Option Addr} {r : Option Rec} {S : Nat → Prop} (h : LastAt w p r) (hk : Keep S w w') (hS : ∀ g x, p = some ⟨g, 0, none⟩ → Blk w g 34 x → ¬ S g) : LastAt w' p r := by
  rcases h with h | ⟨g, x, h1, h2, h3⟩
  · exact .inl h
  · exact .inr ⟨g, x, h1, h2, h3.keep hk (hS g _ h2 h3)⟩

set_option maxHeartbeats 400000
set_option maxRecDepth 100000

theorem meterNew_any (w : World) : Calls Try.prog 23 #[] w fun e w' => e = .returned (.pointer (some ⟨w.heap.size, 0, none⟩)) ∧ w' = w.alloc (.cells (meterCells 0 none) 80) := by
  go_enter Try.func23, Try.ntmps23
  go_wp2
  go_ret
  exact ⟨rfl, rfl⟩

theorem meterAdd_one (b : Nat) (n : Int) (last : Option Addr) (w : World) (hn : 0 ≤ n) (hm : n < 4294967296) (h : Blk w b 80 (meterCells n last)) :
    Calls Try.prog 24 #[.pointer (some ⟨b, 0, none⟩), .int .u64 1] w fun e w' => e = .returned (.tuple #[.int .u64 (n + 1), .int .i64 0]) ∧ w' = w.setCell ⟨b, 0, none⟩ (.int .u64 (n + 1)) := by
  have hc : w.cell? ⟨b, 0, none⟩ = some (.int .u64 n) := (h.cell 0).trans rfl
  have hz := h.frozen 0
  have hl := run_call_load (P := Try.prog) Try.func35 (by kernel_rfl) (by kernel_rfl) (by kernel_rfl) .u64 (by kernel_rfl) hc
  have hcas := run_call_cas_hit (P := Try.prog) Try.func36 (by kernel_rfl) (by kernel_rfl) (by kernel_rfl) .u64 (by kernel_rfl) (y := n+1) hc hz
  go_enter Try.func24, Try.ntmps24
  go_wp2
  refine wp_loop_rounds 1 ?_
  rw [rounds_succ]
  go_wp2
  go_ret2
  exact ⟨rfl, rfl⟩

theorem meterTotal_any (b : Nat) (n : Int) (last : Option Addr) (w : World) (h : Blk w b 80 (meterCells n last)) :
    Calls Try.prog 26 #[.pointer (some ⟨b, 0, none⟩)] w fun e w' => e = .returned (.int .u64 n) ∧ w' = w := by
  have hc : w.cell? ⟨b, 0, none⟩ = some (.int .u64 n) := (h.cell 0).trans rfl
  have hl := run_call_load (P := Try.prog) Try.func35 (by kernel_rfl) (by kernel_rfl) (by kernel_rfl) .u64 (by kernel_rfl) hc
  go_enter Try.func26, Try.ntmps26
  go_wp2
  go_ret
  exact ⟨rfl, rfl⟩

theorem meterTotal_nil (w : World) : Calls Try.prog 26 #[.pointer none] w fun e w' => e = .returned (.int .u64 0) ∧ w' = w := by
  go_enter Try.func26, Try.ntmps26
  go_wp2
  go_ret
  exact ⟨rfl, rfl⟩

theorem ptrSwap_any (b : Nat) (n : Int) (last : Option Addr) (r : Option Rec) (g : Nat) (x : Rec) (w : World) (h : Blk w b 80 (meterCells n last)) (hg : Blk w g 34 x.cells) (hl : LastAt w last r) :
    Calls Try.prog 31 #[.pointer (some ⟨b, 5, none⟩), .pointer (some ⟨g, 0, none⟩)] w fun e w' => e = .returned (.pointer last) ∧ w' = w.setCell ⟨b, 5, none⟩ (.pointer (some ⟨g, 0, none⟩)) := by
  have hc : w.cell? ⟨b, 5, none⟩ = some (.pointer last) := (h.cell 5).trans rfl
  have hz := h.frozen 5
  have hcas := run_call_swap_ptr (P := Try.prog) Try.func37 (by kernel_rfl) (by kernel_rfl) (by kernel_rfl) (by kernel_rfl) (y := some ⟨g, 0, none⟩) hc hz
  have hto := run_convert_to_unsafe (P := Try.prog) Try.underlying74 Try.underlying76 (by kernel_rfl) (show w.cell? ⟨g, 0, none⟩ = some (.int .i64 x.at_) from (hg.cell 0).trans rfl)
  rcases hl with ⟨rfl, rfl⟩ | ⟨g', y, rfl, rfl, hB⟩
  · have hfrom := run_from_unsafe_nil (P := Try.prog) Try.underlying76 Try.underlying74
    go_enter Try.func31, Try.ntmps31
    go_wp2
    go_ret
    exact ⟨rfl, rfl⟩
  · have hB' := hB.far (p := ⟨b, 5, none⟩) (h.ne_ hB (by decide)).symm (.pointer (some ⟨g, 0, none⟩))
    have hfrom := run_from_unsafe (P := Try.prog) Try.underlying76 Try.underlying74 (by kernel_rfl) hB' (by kernel_rfl)
    go_enter Try.func31, Try.ntmps31
    go_wp2
    go_ret
    exact ⟨rfl, rfl⟩

theorem ptrLoad_any (b : Nat) (n : Int) (last : Option Addr) (r : Option Rec) (w : World) (h : Blk w b 80 (meterCells n last)) (hl : LastAt w last r) :
    Calls Try.prog 34 #[.pointer (some ⟨b, 5, none⟩)] w fun e w' => e = .returned (.pointer last) ∧ w' = w := by
  have hc : w.cell? ⟨b, 5, none⟩ = some (.pointer last) := (h.cell 5).trans rfl
  have hld := run_call_load_ptr (P := Try.prog) Try.func49 (by kernel_rfl) (by kernel_rfl) (by kernel_rfl) (by kernel_rfl) hc
  rcases hl with ⟨rfl, rfl⟩ | ⟨g', y, rfl, rfl, hB⟩
  · have hfrom := run_from_unsafe_nil (P := Try.prog) Try.underlying76 Try.underlying74
    go_enter Try.func34, Try.ntmps34
    go_wp2
    go_ret
    exact ⟨rfl, rfl⟩
  · have hfrom := run_from_unsafe (P := Try.prog) Try.underlying76 Try.underlying74 (by kernel_rfl) hB (by kernel_rfl)
    go_enter Try.func34, Try.ntmps34
    go_wp2
    go_ret
    exact ⟨rfl, rfl⟩

theorem meterNote_any (b : Nat) (n : Int) (last : Option Addr) (r : Option Rec) (x : Rec) (w : World) (h : Blk w b 80 (meterCells n last)) (hl : LastAt w last r) :
    Calls Try.prog 25 #[.pointer (some ⟨b, 0, none⟩), .agg x.cells] w fun e w' => ∃ v, e = .returned v ∧
      LastAt w' (some ⟨w.heap.size, 0, none⟩) (some x) ∧ Blk w' b 80 (meterCells n (some ⟨w.heap.size, 0, none⟩)) ∧ Keep (· = b) w w' := by
  have hlt := h.lt
  unfold Rec.cells
  rcases hl with ⟨rfl, rfl⟩ | ⟨g', y, rfl, rfl, hB⟩
  · go_enter Try.func25, Try.ntmps25
    go_wp2_with (go_at_call 31; refine (ptrSwap_any b n _ none w.heap.size x _ ((h.alloc _).alloc _) ((Blk.new w _ _).alloc _) (.inl ⟨rfl, rfl⟩)).mono ?_; rintro e w' ⟨rfl, rfl⟩)
    refine bodyPost_ret (v := .tuple #[.agg #[.int .i64 0, .int .i64 0, .int .u32 0, .int .u32 0], .bool false]) (by simp [results, Try.results25, go_sem]) rfl ⟨_, rfl, ?_, ?_, ?_⟩
    · exact .inr ⟨_, x, rfl, rfl, (Blk.new' _ _ _ (by simp [World.setCell])).alloc _⟩
    · exact (((h.set_ 5 _).alloc _).alloc _)
    · exact (((Keep.refl (fun k => k = b) w).setCell (p := ⟨b, 5, none⟩) (fun _ => rfl) _).alloc _).alloc _
  · have hbn := h.ne_ hB (by decide)
    have hC : ∀ i, w.cell? ⟨g', i, none⟩ = (#[.int .i64 y.at_, .int .i64 y.code, .int .u32 y.s, .int .u32 y.k] : Array Value)[i]? := hB.cell
    have hS := fun (W : World) => cellS (g := g') W hbn
    have hA := fun (W : World) (hlt : g' < W.heap.size) => cellA hlt
    have hgl := hB.lt
    go_enter Try.func25, Try.ntmps25
    go_wp2_with (go_at_call 31; refine (ptrSwap_any b n _ (some y) w.heap.size x _ ((h.alloc _).alloc _) ((Blk.new w _ _).alloc _) (.inr ⟨g', y, rfl, rfl, (hB.alloc _).alloc _⟩)).mono ?_; rintro e w' ⟨rfl, rfl⟩)
    refine bodyPost_ret (v := .tuple #[.agg #[.int .i64 y.at_, .int .i64 y.code, .int .u32 y.s, .int .u32 y.k], .bool true]) (by simp [results, Try.results25, go_sem]) rfl ⟨_, rfl, ?_, ?_, ?_⟩
    · exact .inr ⟨_, x, rfl, rfl, (Blk.new' _ _ _ (by simp [World.setCell])).alloc _⟩
    · exact (((h.set_ 5 _).alloc _).alloc _)
    · exact (((Keep.refl (fun k => k = b) w).setCell (p := ⟨b, 5, none⟩) (fun _ => rfl) _).alloc _).alloc _

/-- What 'Last' answers. -/
def lastVal (r : Option Rec) : Value := match r with
  | none => .tuple #[.agg Rec.zero.cells, .bool false]
  | some x => .tuple #[.agg x.cells, .bool true]

theorem meterLast_any (b : Nat) (n : Int) (last : Option Addr) (r : Option Rec) (w : World) (h : Blk w b 80 (meterCells n last)) (hl : LastAt w last r) :
    Calls Try.prog 28 #[.pointer (some ⟨b, 0, none⟩)] w fun e w' => e = .returned (lastVal r) ∧ Below w.heap.size w w' := by
  have hlt := h.lt
  rcases hl with ⟨rfl, rfl⟩ | ⟨g', y, rfl, rfl, hB⟩
  · go_enter Try.func28, Try.ntmps28
    go_wp2_with (go_at_call 34; refine (ptrLoad_any b n _ none _ (h.alloc _) (.inl ⟨rfl, rfl⟩)).mono ?_; rintro e w' ⟨rfl, rfl⟩)
    refine bodyPost_ret (v := lastVal none) (by simp [results, Try.results28, go_sem, lastVal, Rec.cells, Rec.zero]) rfl ⟨rfl, ?_⟩
    exact (Below.refl _ _).alloc (Nat.le_refl _) _
  · have hC : ∀ i, w.cell? ⟨g', i, none⟩ = (#[.int .i64 y.at_, .int .i64 y.code, .int .u32 y.s, .int .u32 y.k] : Array Value)[i]? := hB.cell
    have hA := fun (W : World) (hlt : g' < W.heap.size) => cellA hlt
    have hgl := hB.lt
    go_enter Try.func28, Try.ntmps28
    go_wp2_with (go_at_call 34; refine (ptrLoad_any b n _ (some y) _ (h.alloc _) (.inr ⟨g', y, rfl, rfl, hB.alloc _⟩)).mono ?_; rintro e w' ⟨rfl, rfl⟩)
    refine bodyPost_ret (v := lastVal (some y)) (by simp [results, Try.results28, go_sem, lastVal, Rec.cells]) rfl ⟨rfl, ?_⟩
    exact (Below.refl _ _).alloc (Nat.le_refl _) _
end Go.Proofs.Ytialafoofjgchaa
