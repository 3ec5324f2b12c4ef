/- The base of the laws, part 3: contracts and plain lemmas, no statement. -/
import Derived.Test.YtbkkfkbgcklkgaaGreatBase2
import Derived.Deep.RegionHeld3
import Derived.DataShut
import Derived.Test.YtbkkfkbgcklkgaaGreatProg
import Derived.Defers
import Derived.Laws.LoneSync
import Derived.Laws.Pointers
import Derived.RegionCalls
import Derived.Deep.OwnRows
/- param's functions by their contracts. -/
namespace Go.Proofs.YtbkkfkbgcklkgaaGreat
open Go.RowKit
set_option maxHeartbeats 10000000
set_option maxRecDepth 100000

def parVal (p : ParM) : Value := .agg #[.int .u32 p.code, .int .i64 p.out, .int .i64 p.inn, .int .i64 p.watch, .int .u32 p.count]
structure ParM.Ok (p : ParM) : Prop where
  code : 0 ≤ p.code ∧ p.code < 4294967296
  count : 0 ≤ p.count ∧ p.count < 4294967296
theorem paramCheck_any (p : ParM) (w : World) : Calls Tryz.prog 43 #[parVal p] w fun e w' => e = .returned (.int .i64 (if p.lawful then 0 else 90)) ∧ Below w.heap.size w w' := by
  obtain ⟨code, out, inn, watch, count⟩ := p
  have hb : ∀ cs t, Below w.heap.size w (w.alloc (.cells cs t)) := fun cs t => (Below.refl _ _).alloc (Nat.le_refl _) _
  obtain ⟨law, Hlaw⟩ : ∃ b, Hid (b = (ParM.mk code out inn watch count).lawful) := ⟨_, Lib.hid rfl⟩
  rw [← Hlaw.out]
  have Hl2 : Hid (law = decide (code ≠ 0 ∧ 1 ≤ out ∧ out ≤ 8 ∧ 1 ≤ inn ∧ inn ≤ 8 ∧ 1 ≤ watch ∧ watch ≤ 1048576 ∧ 2 ≤ count)) := Lib.hid Hlaw.out
  clear Hlaw
  unfold parVal
  simp only
  have no : ∀ (q : Prop) [Decidable q], (law = decide q) → ¬ q → law = false := fun q _ h hn => by rw [h]; simpa using hn
  by_cases h1 : code = 0
  · have hl := no _ Hl2.out (by omega)
    subst hl h1
    go_enter Tryz.func43, Tryz.ntmps43
    go_wp2_with fail
    go_ret
    exact ⟨rfl, hb _ _⟩
  have g1 : (code == 0) = false := by simpa using h1
  by_cases h2 : out < 1
  · have hl := no _ Hl2.out (by omega)
    subst hl
    go_enter Tryz.func43, Tryz.ntmps43
    go_wp2_with fail
    go_ret
    exact ⟨rfl, hb _ _⟩
  by_cases h3 : 8 < out
  · have hl := no _ Hl2.out (by omega)
    subst hl
    go_enter Tryz.func43, Tryz.ntmps43
    go_wp2_with fail
    go_ret
    exact ⟨rfl, hb _ _⟩
  by_cases h4 : inn < 1
  · have hl := no _ Hl2.out (by omega)
    subst hl
    go_enter Tryz.func43, Tryz.ntmps43
    go_wp2_with fail
    go_ret
    exact ⟨rfl, hb _ _⟩
  by_cases h5 : 8 < inn
  · have hl := no _ Hl2.out (by omega)
    subst hl
    go_enter Tryz.func43, Tryz.ntmps43
    go_wp2_with fail
    go_ret
    exact ⟨rfl, hb _ _⟩
  by_cases h6 : watch < 1
  · have hl := no _ Hl2.out (by omega)
    subst hl
    go_enter Tryz.func43, Tryz.ntmps43
    go_wp2_with fail
    go_ret
    exact ⟨rfl, hb _ _⟩
  by_cases h7 : 1048576 < watch
  · have hl := no _ Hl2.out (by omega)
    subst hl
    go_enter Tryz.func43, Tryz.ntmps43
    go_wp2_with fail
    go_ret
    exact ⟨rfl, hb _ _⟩
  by_cases h8 : count < 2
  · have hl := no _ Hl2.out (by omega)
    subst hl
    go_enter Tryz.func43, Tryz.ntmps43
    go_wp2_with fail
    go_ret
    exact ⟨rfl, hb _ _⟩
  · have hl : law = true := by rw [Hl2.out]; simp; omega
    subst hl
    go_enter Tryz.func43, Tryz.ntmps43
    go_wp2_with fail
    go_ret
    exact ⟨rfl, hb _ _⟩
theorem byte_pair {w : World} {g : Nat} {t : TypeId} {a b : Int} (h : Blk w g t #[Value.int .u8 (a % 256), .int .u8 (b % 256)]) : Reads w w.heap.size 1 (some ⟨g, 0, none⟩) 2 (u8c [byteOf a, byteOf b]) := by
  have hr := Reads.of_blk h (B := w.heap.size) (size := 1) (n := 2) h.lt rfl
  have e : u8c [byteOf a, byteOf b] = #[Value.int .u8 (a % 256), .int .u8 (b % 256)].toList := by
    simp only [u8c, List.map_cons, List.map_nil, byteOf_val]
  rw [e]
  exact hr
theorem paramEncode_any (p : ParM) (w : World) (ho : p.Ok) :
    Calls Tryz.prog 191 #[parVal p] w fun e w' => ∃ v, e = .returned (.tuple #[v, .int .i64 (if p.lawful then 0 else 90)]) ∧ w'.ownsRow w.heap.size 5 1 v (if p.lawful then p.bytes else []).length (u8c (if p.lawful then p.bytes else [])) ∧ Below w.heap.size w w' := by
  obtain ⟨i0, hi0, hz0, hz1, hz2⟩ := info_parts byte_info
  have hchk := paramCheck_any p
  cases hlaw : p.lawful with
  | false =>
    rw [hlaw] at hchk
    unfold parVal at *
    go_enter Tryz.func191, Tryz.ntmps191
    go_wp2_with fail
    refine (hchk _).mono ?_
    rintro e w1 ⟨rfl, hb1⟩
    go_wp2_with fail
    refine bodyPost_ret (v := .tuple #[.slice none 0 0, .int .i64 90]) (by simp [results, Tryz.results191, go_sem]) rfl ⟨_, rfl, World.ownsRow_nil _ _ _ _, ((Below.refl _ _).alloc (Nat.le_refl _) _).trans (hb1.mono (by simp))⟩
  | true =>
    rw [hlaw] at hchk
    obtain ⟨bs, Hbs⟩ : ∃ b, Hid (b = p.bytes) := ⟨_, Lib.hid rfl⟩
    simp only [if_true]
    rw [← Hbs.out]
    have Hw : Hid (0 ≤ p.watch ∧ p.watch < 4294967296) := Lib.hid (by
      simp [ParM.lawful] at hlaw
      omega)
    obtain ⟨code, hcode⟩ := word_ex ho.code
    obtain ⟨count, hcount⟩ := word_ex ho.count
    obtain ⟨code', out, inn, watch, count'⟩ := p
    simp only at *
    subst hcode hcount
    obtain ⟨wt, hwt⟩ := word_ex Hw.out
    have Hb2 : Hid (bs = (wordOf code ++ [byteOf out, byteOf inn]) ++ wordOf wt ++ wordOf count) := Lib.hid (by
      rw [Hbs.out]
      unfold ParM.bytes
      simp only
      rw [hwt, wordBytes_nat, wordBytes_nat, wordBytes_nat])
    clear Hbs Hw hlaw ho
    subst hwt
    unfold parVal at *
    simp only at *
    go_enter Tryz.func191, Tryz.ntmps191
    go_wp2_with fail
    refine (hchk _).mono ?_
    rintro e w1 ⟨rfl, hb1⟩
    have hB1 := (Blk.new w 35 #[u32v code, .int .i64 out, .int .i64 inn, .int .i64 (wt.toNat : Int), u32v count]).below hb1 (by simp)
    have hb1' : Below w.heap.size w w1 := ((Below.refl _ _).alloc (Nat.le_refl _) _).trans (hb1.mono (by simp))
    have hn1 := hb1'.size
    have hlt1 := hB1.lt
    have hc1 := hB1.cell
    clear hb1 hchk
    go_wp2_with fail
    refine (paramWord_any (.slice none 0 0) 0 [] code w1.heap.size w1 (World.ownsRow_nil _ _ _ _) (Nat.le_refl _) (by omega)).mono ?_
    rintro e w2 ⟨v2, rfl, hown2, hb2⟩
    obtain ⟨A2, c2, rfl⟩ := own_slice hown2
    have hB2 := hB1.below hb2 hlt1
    have hc2 := hB2.cell
    have hb2' := hb1'.trans (hb2.mono hn1)
    have hn2 := hb2.size
    have hl2 := hown2.lt
    clear hc1
    go_wp2_with (at_builtin; refine wpList_append_any _ rfl (.tmp 14) (.tmp 21) _ rfl w1.heap.size 5 i0 _ 1 1 Tryz.underlying41 hi0 hz0 hz1 hz2 rfl (by omega) (.slice A2 4 c2) 4 (u8c ([] ++ wordOf code)) rfl (hown2.alloc _) (w2.heap.size + 1) (some ⟨w2.heap.size, 0, none⟩) 2 2 (u8c [byteOf out, byteOf inn]) rfl (by simpa using byte_pair (Blk.new w2 5 _)) (u8c_one _) (by unfold maxLen; omega) (by omega) (by simp; omega) ?_; intro v3 w3 hown3 hg3 hat3)
    have hB3 := (hB2.alloc _).grown hg3 (fun h => by have := (hl2 _ h).1; omega)
    have hs3 := hg3.size
    have hsz : w1.heap.size ≤ w3.heap.size := by simp at hs3; omega
    have hbW := (hb2'.alloc hb2'.size _).grown hg3 (by have := hb2'.size; simp; omega) (fun k hk => by have := (hl2 k hk).1; omega)
    rw [← u8c_append] at hown3
    obtain ⟨A3, c3, rfl⟩ := own_slice hown3
    have hwt : IntKind.u32.wrap (wt.toNat : Int) = (wt.toNat : Int) := by have := wt.isLt; exact IntWalk.u32_in _ (by omega)
    have hwt2 : (wt.toNat : Int) % 4294967296 = (wt.toNat : Int) := by have := wt.isLt; omega
    clear hB2 hc2 hb2' hown2 hl2 hg3 hat3 hs3 hb2 hn2 hB1 hb1'
    replace hown3 := own_below hown3 (Below.refl _ _).drew
    replace hB3 := hB3.drew
    replace hbW := hbW.drew
    replace hsz : w1.heap.size ≤ w3.drew.heap.size := hsz
    go_region_held3 (fun w' => w'.cell? ⟨w.heap.size, 3, none⟩ = some (.int .i64 (wt.toNat : Int)) ∧ w'.cell? ⟨w.heap.size, 4, none⟩ = some (u32v count)) (exact ⟨(hB3.cell 3).trans rfl, (hB3.cell 4).trans rfl⟩) (first
      | (go_at_call 192; refine (paramWord_any _ _ _ _ w1.heap.size _ hown3 hsz (by omega)).mono ?_; rintro e W ⟨v, rfl, hownN, hbe⟩; clear hown3; have hown3 := hownN; clear hownN; obtain ⟨Av, cv, rfl⟩ := own_slice hown3; replace hsz := Nat.le_trans hsz hbe.size; replace hB3 := hB3.below hbe hlt1; replace hbW := hbW.trans (hbe.mono hn1); clear hbe))
    go_wp2_with fail
    refine bodyPost_ret (v := .tuple #[.slice Av 14 cv, .int .i64 0]) (by simp [results, Tryz.results191, go_sem]) rfl ⟨_, rfl, ?_, hbW⟩
    rw [Hb2.out]
    have hlen : ((wordOf code ++ [byteOf out, byteOf inn]) ++ wordOf wt ++ wordOf count).length = 14 := by simp [wordOf]
    rw [hlen]
    exact own_base hown3 hn1
theorem paramSignature_any (p : ParM) (w : World) (ho : p.Ok) (hl : p.lawful = true) :
    Calls Tryz.prog 180 #[parVal p] w fun e w' => e = .returned (.tuple #[u32v (crcOf 0#32 p.bytes), .int .i64 0]) ∧ Below w.heap.size w w' := by
  have henc := fun w => paramEncode_any p w ho
  obtain ⟨bs, Hbs⟩ : ∃ b, Hid (b = p.bytes) := ⟨_, Lib.hid rfl⟩
  rw [hl] at henc
  simp only [if_true] at henc
  rw [← Hbs.out] at henc ⊢
  have hlen : bs.length = 14 := by rw [Hbs.out]; simp [ParM.bytes, wordBytes, wordOf]
  rw [hlen] at henc
  have Hlen := Lib.hid hlen
  clear hlen hl ho
  obtain ⟨code, out, inn, watch, count⟩ := p
  unfold parVal at *
  simp only at *
  go_enter Tryz.func180, Tryz.ntmps180
  go_wp2_with fail
  refine (henc _).mono ?_
  rintro e w1 ⟨v, rfl, hown, hb1⟩
  obtain ⟨A, c, rfl⟩ := own_slice hown
  have hb1' : Below w.heap.size w w1 := ((Below.refl _ _).alloc (Nat.le_refl _) _).trans (hb1.mono (by simp))
  go_wp2_with fail
  refine (crcBits_any A 14 c bs _ w1 (Reads.of_own hown) (by omega)).mono ?_
  rintro e w2 ⟨rfl, rfl⟩
  go_wp2_with fail
  refine bodyPost_ret (v := .tuple #[u32v (crcOf 0#32 bs), .int .i64 0]) (by simp [results, Tryz.results180, go_sem]) rfl ⟨rfl, hb1'⟩
theorem paramBytes_any (s : BitVec 32) (w : World) : Calls Tryz.prog 183 #[u32v s] w fun e w' => ∃ v, e = .returned v ∧ w'.ownsRow w.heap.size 5 1 v 4 (u8c (wordOf s)) ∧ Below w.heap.size w w' := by
  go_enter Tryz.func183, Tryz.ntmps183
  go_wp2_with fail
  refine (paramWord_any (.slice none 0 0) 0 [] s w.heap.size w (World.ownsRow_nil _ _ _ _) (Nat.le_refl _) (by omega)).mono ?_
  rintro e w2 ⟨v2, rfl, hown2, hb2⟩
  go_wp2_with fail
  go_ret
  exact ⟨_, rfl, hown2, hb2⟩
theorem sign_iff (p : ParM) (a b c d : UInt8) : ([a, b, c, d] = p.sign) ↔ ofWord a b c d = crcOf 0#32 p.bytes := ofWord_inj.symm
theorem paramMatch_any (p : ParM) (A : Option Addr) (n c B : Nat) (l : List UInt8) (w : World) (ho : p.Ok) (hl : p.lawful = true) (hr : Reads w B 1 A n (u8c l)) (hB : B ≤ w.heap.size) (hn : n ≤ 1000) :
    Calls Tryz.prog 161 #[parVal p, .slice A n c] w fun e w' => e = .returned (.tuple #[.bool (decide (l = p.sign)), .int .i64 0]) ∧ Below w.heap.size w w' := by
  have hlen : l.length = n := by have := hr.1; simpa [u8c] using this
  have hsig := fun w => paramSignature_any p w ho hl
  obtain ⟨ok, Hok⟩ : ∃ b, Hid (b = decide (l = p.sign)) := ⟨_, Lib.hid rfl⟩
  rw [← Hok.out]
  have Hs := Lib.hid (sign_iff p)
  have hsl : p.sign.length = 4 := by simp [ParM.sign, wordOf]
  have hno : n ≠ 4 → ok = false := fun h => by
    rw [Hok.out]
    simp only [decide_eq_false_iff_not]
    intro e
    rw [e, hsl] at hlen
    exact h hlen.symm
  have hyes : ∀ a b c d, l = [a, b, c, d] → ok = decide (ofWord a b c d = crcOf 0#32 p.bytes) := fun a b c d e => by
    rw [Hok.out, e]
    exact decide_eq_decide.2 (sign_iff p a b c d)
  clear Hok Hs hsl hl ho
  generalize crcOf 0#32 p.bytes = sg at *
  obtain ⟨code, out, inn, watch, count⟩ := p
  unfold parVal at *
  simp only at *
  by_cases h4 : n = 4
  · subst h4
    obtain ⟨ad, rfl⟩ : ∃ ad, A = some ad := by
      obtain ⟨ad, h, _⟩ := hr.2 (by omega)
      exact ⟨ad, h⟩
    obtain ⟨a, b, c', d, rfl⟩ : ∃ a b c d, l = [a, b, c, d] := by
      match l, hlen with
      | [a, b, c, d], _ => exact ⟨a, b, c, d, rfl⟩
    have hok := hyes _ _ _ _ rfl
    clear hyes hno hlen
    go_enter Tryz.func161, Tryz.ntmps161
    go_wp2_with fail
    refine (hsig _).mono ?_
    rintro e w1 ⟨rfl, hb1⟩
    have hb1' : Below w.heap.size w w1 := ((Below.refl _ _).alloc (Nat.le_refl _) _).trans (hb1.mono (by simp))
    obtain ⟨ad', e', hbd, hcell⟩ := (hr.below (hb1'.mono hB)).2 (by omega)
    injection e' with e'
    subst e'
    go_wp2_with fail
    refine (paramNumber_any ad 4 c a b c' d w1 (by omega) (hcell 0 _ rfl) (hcell 1 _ rfl) (hcell 2 _ rfl) (hcell 3 _ rfl)).mono ?_
    rintro e w2 ⟨rfl, k, rfl⟩
    go_wp2_with fail
    have hq : (((ofWord a b c' d).toNat : Int) == (sg.toNat : Int)) = ok := by
      rw [hok, Bool.eq_iff_iff]
      simp only [beq_iff_eq, decide_eq_true_eq]
      constructor
      · intro h
        apply BitVec.eq_of_toNat_eq
        omega
      · intro h
        rw [h]
    refine bodyPost_ret (v := .tuple #[.bool ok, .int .i64 0]) (by simp [results, Tryz.results161, go_sem, hq]) rfl ⟨rfl, belowN hb1' k⟩
  · have hok := hno h4
    subst hok
    have g4 : ((n : Int) == 4) = false := by simp; omega
    clear hno hyes
    go_enter Tryz.func161, Tryz.ntmps161
    go_wp2_with fail
    refine (hsig _).mono ?_
    rintro e w1 ⟨rfl, hb1⟩
    go_wp2_with fail
    refine bodyPost_ret (v := .tuple #[.bool false, .int .i64 0]) (by simp [results, Tryz.results161, go_sem]) rfl ⟨rfl, ((Below.refl _ _).alloc (Nat.le_refl _) _).trans (hb1.mono (by simp))⟩
end Go.Proofs.YtbkkfkbgcklkgaaGreat
/- How rows hand bytes, sets and numbers on. -/
namespace Go.Proofs.YtbkkfkbgcklkgaaGreat
open Go.RowKit

theorem wf_u8 {z : Int} (h : (Lit.int .u8 z).wf = true) : 0 ≤ z ∧ z < 256 := by
  have := (Lit.wf_int_iff .u8 z).1 h
  simp [IntKind.min, IntKind.max, IntKind.bits, IntKind.signed] at this
  omega
theorem wf_u32 {z : Int} (h : (Lit.int .u32 z).wf = true) : 0 ≤ z ∧ z < 4294967296 := by
  have := (Lit.wf_int_iff .u32 z).1 h
  simp [IntKind.min, IntKind.max, IntKind.bits, IntKind.signed] at this
  omega
theorem wf_i64 {z : Int} (h : (Lit.int .i64 z).wf = true) : -9223372036854775808 ≤ z ∧ z ≤ 9223372036854775807 := by
  have := (Lit.wf_int_iff .i64 z).1 h
  simp [IntKind.min, IntKind.max, IntKind.bits, IntKind.signed] at this
  omega
def bytesOf (zs : List Int) : List UInt8 := zs.map fun z => UInt8.ofNat z.toNat
theorem bytesOf_cells (zs : List Int) (h : ∀ z ∈ zs, (Lit.int .u8 z).wf = true) : zs.map (Value.int .u8) = u8c (bytesOf zs) := by
  induction zs with
  | nil => rfl
  | cons z zs ih =>
    have h1 := wf_u8 (h z (by simp))
    have h2 := ih (fun y hy => h y (by simp [hy]))
    simp only [bytesOf, u8c, List.map_cons] at h2 ⊢
    rw [h2]
    congr 2
    simp only [UInt8.toNat_ofNat']
    omega
theorem reads_bytes {W : World} {B n : Nat} {A : Option Addr} {zs : List Int} (hr : Reads W B 1 A n (zs.map (Value.int .u8))) (h : ∀ z ∈ zs, (Lit.int .u8 z).wf = true) : Reads W B 1 A n (u8c (bytesOf zs)) := by
  rw [← bytesOf_cells zs h]
  exact hr
theorem par_ok {a b c d e : Int} (h0 : (Lit.int .u32 a).wf = true) (h4 : (Lit.int .u32 e).wf = true) : (ParM.mk a b c d e).Ok := ⟨wf_u32 h0, wf_u32 h4⟩
end Go.Proofs.YtbkkfkbgcklkgaaGreat
/- sync.Once and sync.Mutex, one goroutine (after the guide's worked text on sync.Once). -/
namespace Go.Proofs.YtbkkfkbgcklkgaaGreat
open Go.RowKit
set_option maxHeartbeats 4000000
set_option maxRecDepth 100000

theorem raceDisable (w : World) : (callFunc 203 #[]).run Tryz.prog w = .ok (.value (.tuple #[])) w := run_call_mark0 Tryz.func203 (by kernel_rfl) (by kernel_rfl) (by kernel_rfl) .disable (by kernel_rfl) w
theorem raceEnable (w : World) : (callFunc 205 #[]).run Tryz.prog w = .ok (.value (.tuple #[])) w := run_call_mark0 Tryz.func205 (by kernel_rfl) (by kernel_rfl) (by kernel_rfl) .enable (by kernel_rfl) w
theorem raceAcquire (a : Addr) (w : World) : (callFunc 206 #[.pointer (some a)]).run Tryz.prog w = .ok (.value (.tuple #[])) w := run_call_marked Tryz.func206 (by kernel_rfl) (by kernel_rfl) (by kernel_rfl) .acquire (by kernel_rfl) a w
theorem raceReleaseMerge (a : Addr) (w : World) : (callFunc 208 #[.pointer (some a)]).run Tryz.prog w = .ok (.value (.tuple #[])) w := run_call_marked Tryz.func208 (by kernel_rfl) (by kernel_rfl) (by kernel_rfl) .releaseMerge (by kernel_rfl) a w

theorem boolStore_deferred (a : Addr) (x : Value) (u : FrameMode) (w : World) (hc : w.cell? a = some x) (hz : w.frozen? a = false) :
    CallsD Tryz.prog 113 #[.pointer (some a), .bool true] u w fun e u' w' => u' = u ∧ (e = .returned (.tuple #[]) ∧ w' = w.drew.setCell a (.int .u32 1)) := by
  have hc' : w.drew.cell? a = some x := by go_simp
  have hz' : w.drew.frozen? a = false := by go_simp
  have hst := run_call_store (P := Tryz.prog) Tryz.func151 (by kernel_rfl) (by kernel_rfl) (by kernel_rfl) (by kernel_rfl) (k := .u32) (y := 1) hc' hz'
  go_enter_d Tryz.func113, Tryz.ntmps113
  go_wp2
  go_region_calls
  all_goals (go_end0; exact ⟨rfl, rfl⟩)
theorem unlock_deferred (a : Addr) (u : FrameMode) (w : World) (hc : w.cell? a = some (.int .i32 1)) (hz : w.frozen? a = false) :
    CallsD Tryz.prog 199 #[.pointer (some a)] u w fun e u' w' => u' = u ∧ (e = .returned (.tuple #[]) ∧ w' = w.setCell a (.int .i32 0)) := by
  have hd := raceDisable
  have he := raceEnable
  have hr := raceReleaseMerge
  have hadd := run_call_add (P := Tryz.prog) Tryz.func153 (by kernel_rfl) (by kernel_rfl) (by kernel_rfl) .i32 (by kernel_rfl) (y := -1) (s := 0) hc hz (by simp [go_sem]; rfl)
  have hcv := run_convert_to_unsafe (P := Tryz.prog) (src := 282) (dst := 212) Tryz.underlying282 Tryz.underlying212 (by kernel_rfl) hc
  go_enter_d Tryz.func199, Tryz.ntmps199
  go_wp2
  go_end0
  go_wp2
  go_end0
  exact ⟨rfl, rfl⟩
theorem lock_free (a : Addr) (w : World) (hc : w.cell? a = some (.int .i32 0)) (hz : w.frozen? a = false) :
    Calls Tryz.prog 198 #[.pointer (some a)] w fun e w' => e = .returned (.tuple #[]) ∧ w' = w.setCell a (.int .i32 1) := by
  have hd := raceDisable
  have he := raceEnable
  have ha := raceAcquire
  have hcas := run_call_cas_hit (P := Tryz.prog) Tryz.func204 (by kernel_rfl) (by kernel_rfl) (by kernel_rfl) .i32 (by kernel_rfl) (y := 1) hc hz
  have hc' : (w.setCell a (.int .i32 1)).cell? a = some (.int .i32 1) := World.cell?_setCell_same w a _ hc
  have hcv := run_convert_to_unsafe (P := Tryz.prog) (src := 282) (dst := 212) Tryz.underlying282 Tryz.underlying212 (by kernel_rfl) hc'
  go_enter Tryz.func198, Tryz.ntmps198
  go_wp2
  first | go_end0 | (simp only [Exit.inBlock, Exit.then]; refine bodyPost_ret (results_none rfl _ _ _) rfl ?_) | refine bodyPost_ret (results_none rfl _ _ _) rfl ?_
  go_wp2
  go_end0
  exact ⟨rfl, rfl⟩
/-- Do, done already: the function is not called. -/
theorem onceDo_done (a : Addr) (fv : Value) (w : World) (h0 : w.cell? a = some (.int .u32 1)) :
    Calls Tryz.prog 175 #[.pointer (some a), fv] w fun e w' => e = .returned (.tuple #[]) ∧ w' = w := by
  have hl := run_call_load (P := Tryz.prog) Tryz.func178 (by kernel_rfl) (by kernel_rfl) (by kernel_rfl) .u32 (by kernel_rfl) h0
  have hnot : ∀ (x : Bool) (w : World), (Op.unary .not (.bool x)).run Tryz.prog w = .ok (.bool (!x)) w := fun _ _ => rfl
  go_enter Tryz.func175, Tryz.ntmps175
  go_wp2
  go_end0
  exact ⟨rfl, rfl⟩
end Go.Proofs.YtbkkfkbgcklkgaaGreat
/- gate's functions by their contracts. -/
namespace Go.Proofs.YtbkkfkbgcklkgaaGreat
open Go.RowKit
set_option maxHeartbeats 4000000
set_option maxRecDepth 100000

theorem gateClosure_any (pc pg pf gb : Nat) (code : Int) (x0 x1 x2 : Value) (t1 t2 t3 t4 : TypeId) (w : World) (hc : Blk w pc t1 #[.int .i64 code]) (hg : Blk w pg t2 #[.pointer (some ⟨gb, 0, none⟩)]) (hf : Blk w pf t3 #[.bool false])
    (hb : Blk w gb t4 #[x0, x1, x2]) (n1 : ¬ gb = pf) :
    Calls Tryz.prog 176 #[.pointer (some ⟨pc, 0, none⟩), .pointer (some ⟨pg, 0, none⟩), .pointer (some ⟨pf, 0, none⟩)] w fun e w' => e = .returned (.tuple #[]) ∧ w' = (w.setCell ⟨gb, 1, none⟩ (.int .i64 code)).setCell ⟨pf, 0, none⟩ (.bool true) := by
  have hcc := hc.cell
  have hgc := hg.cell
  have hfc := hf.cell
  have hff := hf.frozen
  have hbc := hb.cell
  have hbf := hb.frozen
  have n2 : ¬ pf = gb := fun h => n1 h.symm
  go_enter Tryz.func176, Tryz.ntmps176
  go_wp2_with fail
  go_end0
  exact ⟨rfl, rfl⟩
theorem onceSlow_any (ob pc pg pf gb : Nat) (code : Int) (s x0 x1 x2 : Value) (t1 t2 t3 t4 t5 : TypeId) (w : World) (ho : Blk w ob t5 #[.int .u32 0, .int .i32 0, s]) (hc : Blk w pc t1 #[.int .i64 code]) (hg : Blk w pg t2 #[.pointer (some ⟨gb, 0, none⟩)]) (hf : Blk w pf t3 #[.bool false])
    (hb : Blk w gb t4 #[x0, x1, x2]) (n1 : ¬ gb = pf) (n2 : ¬ ob = gb) (n3 : ¬ ob = pf) (n4 : ¬ ob = pc) (n5 : ¬ ob = pg) :
    Calls Tryz.prog 190 #[.pointer (some ⟨ob, 0, none⟩), .func (.func 176) #[] #[.pointer (some ⟨pc, 0, none⟩), .pointer (some ⟨pg, 0, none⟩), .pointer (some ⟨pf, 0, none⟩)]] w fun e w' => e = .returned (.tuple #[]) ∧
      w' = (((((w.setCell ⟨ob, 1, none⟩ (.int .i32 1)).setCell ⟨gb, 1, none⟩ (.int .i64 code)).setCell ⟨pf, 0, none⟩ (.bool true)).drew.setCell ⟨ob, 0, none⟩ (.int .u32 1)).setCell ⟨ob, 1, none⟩ (.int .i32 0)) := by
  have hol : Blk (w.setCell ⟨ob, 1, none⟩ (.int .i32 1)) ob t5 #[.int .u32 0, .int .i32 1, s] := by simpa using ho.set_ 1 (.int .i32 1)
  have h0 : (w.setCell ⟨ob, 1, none⟩ (.int .i32 1)).cell? ⟨ob, 0, none⟩ = some (.int .u32 0) := (hol.cell 0).trans rfl
  have hl := run_call_load (P := Tryz.prog) Tryz.func178 (by kernel_rfl) (by kernel_rfl) (by kernel_rfl) .u32 (by kernel_rfl) h0
  have hnot : ∀ (x : Bool) (w : World), (Op.unary .not (.bool x)).run Tryz.prog w = .ok (.bool (!x)) w := fun _ _ => rfl
  have hc1 := hc.far (p := ⟨ob, 1, none⟩) (fun h => n4 h.symm) (.int .i32 1)
  have hg1 := hg.far (p := ⟨ob, 1, none⟩) (fun h => n5 h.symm) (.int .i32 1)
  have hf1 := hf.far (p := ⟨ob, 1, none⟩) (fun h => n3 h.symm) (.int .i32 1)
  have hb1 := hb.far (p := ⟨ob, 1, none⟩) (fun h => n2 h.symm) (.int .i32 1)
  have hcl := gateClosure_any pc pg pf gb code x0 x1 x2 t1 t2 t3 t4 _ hc1 hg1 hf1 hb1 n1
  have ho2 := (hol.far (p := ⟨gb, 1, none⟩) n2 (.int .i64 code)).far (p := ⟨pf, 0, none⟩) n3 (.bool true)
  go_enter_defers Tryz.func190, Tryz.ntmps190
  go_wp2_with (go_at_call 198; refine (lock_free ⟨ob, 1, none⟩ _ ((ho.cell 1).trans rfl) (ho.frozen 1)).mono ?_; rintro e w' ⟨rfl, rfl⟩)
  go_wp2_with (go_at_call 156; go_in)
  refine hcl.mono ?_
  rintro e w' ⟨rfl, rfl⟩
  go_wp2_with fail
  refine leaves_cons (f := 113) (args := #[.pointer (some ⟨ob, 0, none⟩), .bool true]) (by simp) (by simp [go_sem]) ?_
  refine (boolStore_deferred ⟨ob, 0, none⟩ (.int .u32 0) .returning _ ((ho2.cell 0).trans rfl) (ho2.frozen 0)).mono ?_
  rintro e u' w'' ⟨rfl, rfl, rfl⟩
  have ho3 : Blk ((((w.setCell ⟨ob, 1, none⟩ (.int .i32 1)).setCell ⟨gb, 1, none⟩ (.int .i64 code)).setCell ⟨pf, 0, none⟩ (.bool true)).drew.setCell ⟨ob, 0, none⟩ (.int .u32 1)) ob t5 #[.int .u32 1, .int .i32 1, s] := by simpa using ho2.drew.set_ 0 (.int .u32 1)
  refine leaves_cons (f := 199) (args := #[.pointer (some ⟨ob, 1, none⟩)]) (by simp [settle]) (by simp [go_sem]) ?_
  refine (unlock_deferred ⟨ob, 1, none⟩ _ _ ((ho3.cell 1).trans rfl) (ho3.frozen 1)).mono ?_
  rintro e u' w'' ⟨rfl, rfl, rfl⟩
  simp [Leaves, settle, results, Tryz.results190]
theorem onceDo_first (ob pc pg pf gb : Nat) (code : Int) (s x0 x1 x2 : Value) (t1 t2 t3 t4 t5 : TypeId) (w : World) (ho : Blk w ob t5 #[.int .u32 0, .int .i32 0, s]) (hc : Blk w pc t1 #[.int .i64 code]) (hg : Blk w pg t2 #[.pointer (some ⟨gb, 0, none⟩)]) (hf : Blk w pf t3 #[.bool false])
    (hb : Blk w gb t4 #[x0, x1, x2]) (n1 : ¬ gb = pf) (n2 : ¬ ob = gb) (n3 : ¬ ob = pf) (n4 : ¬ ob = pc) (n5 : ¬ ob = pg) :
    Calls Tryz.prog 175 #[.pointer (some ⟨ob, 0, none⟩), .func (.func 176) #[] #[.pointer (some ⟨pc, 0, none⟩), .pointer (some ⟨pg, 0, none⟩), .pointer (some ⟨pf, 0, none⟩)]] w fun e w' => e = .returned (.tuple #[]) ∧
      w' = (((((w.setCell ⟨ob, 1, none⟩ (.int .i32 1)).setCell ⟨gb, 1, none⟩ (.int .i64 code)).setCell ⟨pf, 0, none⟩ (.bool true)).drew.setCell ⟨ob, 0, none⟩ (.int .u32 1)).setCell ⟨ob, 1, none⟩ (.int .i32 0)) := by
  have h0 : w.cell? ⟨ob, 0, none⟩ = some (.int .u32 0) := (ho.cell 0).trans rfl
  have hl := run_call_load (P := Tryz.prog) Tryz.func178 (by kernel_rfl) (by kernel_rfl) (by kernel_rfl) .u32 (by kernel_rfl) h0
  have hnot : ∀ (x : Bool) (w : World), (Op.unary .not (.bool x)).run Tryz.prog w = .ok (.bool (!x)) w := fun _ _ => rfl
  go_enter Tryz.func175, Tryz.ntmps175
  go_wp2_with (first | (go_at_call 190; refine (onceSlow_any ob pc pg pf gb code s x0 x1 x2 t1 t2 t3 t4 t5 _ ho hc hg hf hb n1 n2 n3 n4 n5).mono ?_; rintro e w' ⟨rfl, rfl⟩) | (go_at_call 156; go_in))
  go_end0
  exact ⟨rfl, rfl⟩

/-- A gate and its Once: blocks b and o; what is latched. -/
structure GateIs (w : World) (b o : Nat) (code : Int) : Prop where
  gate : ∃ n, Blk w b 231 #[.pointer (some ⟨o, 0, none⟩), .int .i64 code, .int .i64 n]
  once : ∃ s, Blk w o 246 #[.int .u32 (if code = 0 then 0 else 1), .int .i32 0, s]
theorem GateIs.ne {w : World} {b o : Nat} {code : Int} (h : GateIs w b o code) : b ≠ o := by
  obtain ⟨⟨n, h1⟩, ⟨s, h2⟩⟩ := h
  exact h1.ne_ h2 (by decide)
theorem GateIs.keep {w w' : World} {b o : Nat} {code : Int} {S : Nat → Prop} (h : GateIs w b o code) (hk : Keep S w w') (hb : ¬ S b) (ho : ¬ S o) : GateIs w' b o code := by
  obtain ⟨⟨n, h1⟩, ⟨s, h2⟩⟩ := h
  exact ⟨⟨n, h1.keep hk hb⟩, ⟨s, h2.keep hk ho⟩⟩
theorem gateNew_any (w : World) : Calls Tryz.prog 129 #[] w fun e w' => e = .returned (.pointer (some ⟨w.heap.size + 1, 0, none⟩)) ∧ GateIs w' (w.heap.size + 1) w.heap.size 0 ∧ Below w.heap.size w w' ∧ w'.heap.size = w.heap.size + 2 := by
  go_enter Tryz.func129, Tryz.ntmps129
  go_wp2_with fail
  go_ret
  refine ⟨rfl, ⟨⟨0, ?_⟩, ⟨.int .u32 0, ?_⟩⟩, ((Below.refl _ _).alloc (Nat.le_refl _) _).alloc (by simp) _, by simp⟩
  · exact Blk.new' _ _ _ (by simp)
  · exact (Blk.new w _ _).alloc _
theorem gateCode_any (b o : Nat) (code : Int) (w : World) (h : GateIs w b o code) : Calls Tryz.prog 110 #[.pointer (some ⟨b, 0, none⟩)] w fun e w' => e = .returned (.int .i64 code) ∧ w' = w := by
  obtain ⟨⟨n, h1⟩, _⟩ := h
  have hc := h1.cell
  go_enter Tryz.func110, Tryz.ntmps110
  go_wp2_with fail
  go_ret
  exact ⟨rfl, rfl⟩
end Go.Proofs.YtbkkfkbgcklkgaaGreat
/- gate.Trip and gate.Lift by their contracts. -/
namespace Go.Proofs.YtbkkfkbgcklkgaaGreat
open Go.RowKit
set_option maxHeartbeats 4000000
set_option maxRecDepth 100000

theorem int64Add_any (a : Addr) (n : Int) (w : World) (hc : w.cell? a = some (.int .i64 n)) (hz : w.frozen? a = false) :
    Calls Tryz.prog 174 #[.pointer (some a), .int .i64 1] w fun e w' => e = .returned (.int .i64 (IntKind.i64.wrap (n + 1))) ∧ w' = w.setCell a (.int .i64 (IntKind.i64.wrap (n + 1))) := by
  have hadd := run_call_add (P := Tryz.prog) Tryz.func189 (by kernel_rfl) (by kernel_rfl) (by kernel_rfl) .i64 (by kernel_rfl) (x := n) (y := 1) (s := IntKind.i64.wrap (n + 1)) hc hz (by simp [go_sem])
  generalize IntKind.i64.wrap (n + 1) = m at *
  go_enter Tryz.func174, Tryz.ntmps174
  go_wp2
  go_ret
  exact ⟨rfl, rfl⟩
theorem int64Store_any (a : Addr) (n m : Int) (w : World) (hc : w.cell? a = some (.int .i64 n)) (hz : w.frozen? a = false) :
    Calls Tryz.prog 155 #[.pointer (some a), .int .i64 m] w fun e w' => e = .returned (.tuple #[]) ∧ w' = w.setCell a (.int .i64 m) := by
  have hst := run_call_store (P := Tryz.prog) Tryz.func177 (by kernel_rfl) (by kernel_rfl) (by kernel_rfl) (by kernel_rfl) (k := .i64) (y := m) hc hz
  go_enter Tryz.func155, Tryz.ntmps155
  go_wp2
  go_end0
  exact ⟨rfl, rfl⟩
theorem gateTrip_any (b o : Nat) (old code : Int) (w : World) (hcode : code ≠ 0) (h : GateIs w b o old) :
    Calls Tryz.prog 154 #[.pointer (some ⟨b, 0, none⟩), .int .i64 code] w fun e w' => e = .returned (.bool (old == 0)) ∧ GateIs w' b o (if old = 0 then code else old) ∧ Keep (fun x => x = b ∨ x = o) w w' := by
  have hbo := h.ne
  obtain ⟨⟨n, hb⟩, ⟨s, ho⟩⟩ := h
  have hmf : ∀ (fn : Fn) (first cap : Array Value) (w : World), (Instr.makeFunc fn first cap).run Tryz.prog w = .ok (.func fn first cap) w := fun _ _ _ _ => rfl
  have hb1 := (hb.alloc (.cells #[.pointer (some ⟨b, 0, none⟩)] 186)).alloc (.cells #[.int .i64 code] 24)
  have ho1 := (ho.alloc (.cells #[.pointer (some ⟨b, 0, none⟩)] 186)).alloc (.cells #[.int .i64 code] 24)
  have hp1 := (Blk.new w 186 #[.pointer (some ⟨b, 0, none⟩)]).alloc (.cells #[.int .i64 code] 24)
  have hq1 := Blk.new' (w.alloc (.cells #[.pointer (some ⟨b, 0, none⟩)] 186)) 24 #[.int .i64 code] (g := w.heap.size + 1) (by simp)
  have hlb := hb.lt
  have hlo := ho.lt
  have hcod : (code == 0) = false := by simpa using hcode
  have hk1 : Keep (fun x => x = b ∨ x = o) w ((w.alloc (.cells #[.pointer (some ⟨b, 0, none⟩)] 186)).alloc (.cells #[.int .i64 code] 24)) := ((Keep.refl _ w).alloc _).alloc _
  have hsz1 : ((w.alloc (.cells #[.pointer (some ⟨b, 0, none⟩)] 186)).alloc (.cells #[.int .i64 code] 24)).heap.size = w.heap.size + 2 := by simp
  have Hbo := Lib.hid hbo
  clear hbo hcode
  go_enter Tryz.func154, Tryz.ntmps154
  go_wp2_with fail
  refine (int64Add_any ⟨b, 2, none⟩ n _ ((hb1.cell 2).trans rfl) (hb1.frozen 2)).mono ?_
  rintro e W ⟨rfl, hW⟩
  have hb2 : Blk W b 231 #[.pointer (some ⟨o, 0, none⟩), .int .i64 old, .int .i64 (IntKind.i64.wrap (n + 1))] := by
    rw [hW]
    simpa using hb1.set_ 2 (.int .i64 (IntKind.i64.wrap (n + 1)))
  have ho2 : Blk W o 246 _ := hW ▸ ho1.far (p := ⟨b, 2, none⟩) (fun h => Hbo.out h.symm) (.int .i64 (IntKind.i64.wrap (n + 1)))
  have hp2 : Blk W w.heap.size 186 _ := hW ▸ hp1.far (p := ⟨b, 2, none⟩) (by simp; omega) (.int .i64 (IntKind.i64.wrap (n + 1)))
  have hq2 : Blk W (w.heap.size + 1) 24 _ := hW ▸ hq1.far (p := ⟨b, 2, none⟩) (by simp; omega) (.int .i64 (IntKind.i64.wrap (n + 1)))
  have hk2 : Keep (fun x => x = b ∨ x = o) w W := hW ▸ hk1.setCell (p := ⟨b, 2, none⟩) (fun _ => .inl rfl) (.int .i64 (IntKind.i64.wrap (n + 1)))
  have hsz2 : W.heap.size = w.heap.size + 2 := by rw [hW]; simp [World.setCell]
  clear hW hb1 ho1 hp1 hq1 hk1 hsz1 hb ho
  generalize IntKind.i64.wrap (n + 1) = m at *
  obtain ⟨p, hp⟩ : ∃ p, p = w.heap.size := ⟨_, rfl⟩
  have Hp := Lib.hid hp
  rw [← hp] at hp2 hq2 hsz2 ⊢
  clear hp
  have Hsz := Lib.hid hsz2
  clear hsz2
  have hc1 := hp2.cell
  have hc2 := hq2.cell
  have hc3 := hb2.cell
  have hc4 : ∀ o i, (W.alloc o).cell? ⟨p, i, none⟩ = (#[Value.pointer (some ⟨b, 0, none⟩)] : Array Value)[i]? := fun o i => (hp2.alloc o).cell i
  have hc5 : ∀ ob i, (W.alloc ob).cell? ⟨b, i, none⟩ = (#[Value.pointer (some ⟨o, 0, none⟩), .int .i64 old, .int .i64 m] : Array Value)[i]? := fun ob i => (hb2.alloc ob).cell i
  by_cases h0 : old = 0
  · subst h0
    go_wp2_with fail
    have hsz2 := Hsz.out
    have hpw := Hp.out
    have ho3 : Blk W o 246 #[.int .u32 0, .int .i32 0, s] := by simpa using ho2
    have d1 : ¬ b = W.heap.size := by omega
    have d2 : ¬ o = b := fun h => Hbo.out h.symm
    have d3 : ¬ o = W.heap.size := by omega
    have d4 : ¬ o = p + 1 := by omega
    have d5 : ¬ o = p := by omega
    refine (onceDo_first o (p + 1) p W.heap.size b code s (.pointer (some ⟨o, 0, none⟩)) (.int .i64 0) (.int .i64 m) 24 186 4 231 246 _ (ho3.alloc _) (hq2.alloc _) (hp2.alloc _) (Blk.new W 4 #[.bool false]) (hb2.alloc _) d1 d2 d3 d4 d5).mono ?_
    rintro e W3 ⟨rfl, hW⟩
    have hb3 : Blk W3 b 231 #[.pointer (some ⟨o, 0, none⟩), .int .i64 code, .int .i64 m] := by
      rw [hW]
      have := (((((hb2.alloc (.cells #[.bool false] 4)).far (p := ⟨o, 1, none⟩) (fun h => d2 h.symm) (.int .i32 1)).set_ 1 (.int .i64 code)).far (p := ⟨W.heap.size, 0, none⟩) d1 (.bool true)).drew.far (p := ⟨o, 0, none⟩) (fun h => d2 h.symm) (.int .u32 1)).far (p := ⟨o, 1, none⟩) (fun h => d2 h.symm) (.int .i32 0)
      simpa using this
    have ho4 : Blk W3 o 246 #[.int .u32 1, .int .i32 0, s] := by
      rw [hW]
      have := (((((ho3.alloc (.cells #[.bool false] 4)).set_ 1 (.int .i32 1)).far (p := ⟨b, 1, none⟩) d2 (.int .i64 code)).far (p := ⟨W.heap.size, 0, none⟩) d3 (.bool true)).drew.set_ 0 (.int .u32 1)).set_ 1 (.int .i32 0)
      simpa using this
    have hf3 : Blk W3 W.heap.size 4 #[.bool true] := by
      rw [hW]
      have := (((((Blk.new W 4 #[.bool false]).far (p := ⟨o, 1, none⟩) (fun h => d3 h.symm) (.int .i32 1)).far (p := ⟨b, 1, none⟩) (fun h => d1 h.symm) (.int .i64 code)).set_ 0 (.bool true)).drew.far (p := ⟨o, 0, none⟩) (fun h => d3 h.symm) (.int .u32 1)).far (p := ⟨o, 1, none⟩) (fun h => d3 h.symm) (.int .i32 0)
      simpa using this
    have hk3 : Keep (fun x => x = b ∨ x = o) w W3 := by
      rw [hW]
      exact ((((((hk2.alloc _).setCell (p := ⟨o, 1, none⟩) (fun _ => .inr rfl) _).setCell (p := ⟨b, 1, none⟩) (fun _ => .inl rfl) _).setCell (p := ⟨W.heap.size, 0, none⟩) (fun h => by simp at h; omega) _).drew).setCell (p := ⟨o, 0, none⟩) (fun _ => .inr rfl) _).setCell (p := ⟨o, 1, none⟩) (fun _ => .inr rfl) _
    clear hW hsz2 hpw
    have hcf := hf3.cell
    go_wp2_with fail
    go_ret
    exact ⟨rfl, ⟨⟨m, hb3⟩, ⟨s, by rw [if_neg (by simpa using hcod)]; exact ho4⟩⟩, hk3⟩
  · go_wp2_with fail
    have ho3 : Blk W o 246 #[.int .u32 1, .int .i32 0, s] := by rw [if_neg h0] at ho2; exact ho2
    refine (onceDo_done ⟨o, 0, none⟩ _ _ (((ho3.alloc _).cell 0).trans rfl)).mono ?_
    rintro e W3 ⟨rfl, rfl⟩
    go_wp2_with fail
    go_ret
    refine ⟨?_, ⟨⟨m, ?_⟩, ⟨s, ?_⟩⟩, hk2.alloc _⟩
    · have : (old == 0) = false := by simpa using h0
      rw [this]
      rfl
    · exact hb2.alloc _
    · rw [if_neg h0]
      exact ho3.alloc _
theorem gateLift_any (b o : Nat) (old : Int) (w : World) (h : GateIs w b o old) :
    Calls Tryz.prog 123 #[.pointer (some ⟨b, 0, none⟩)] w fun e w' => e = .returned (.int .i64 old) ∧ GateIs w' b w.heap.size 0 ∧ Keep (fun x => x = b) w w' ∧ w'.heap.size = w.heap.size + 1 := by
  obtain ⟨⟨n, hb⟩, _⟩ := h
  have hlb := hb.lt
  have hbc := hb.cell
  have hbf := hb.frozen
  have hbA : ∀ ob i, (w.alloc ob).cell? ⟨b, i, none⟩ = (#[Value.pointer (some ⟨o, 0, none⟩), .int .i64 old, .int .i64 n] : Array Value)[i]? := fun ob i => (hb.alloc ob).cell i
  have hbB : ∀ ob i, (w.alloc ob).frozen? ⟨b, i, none⟩ = false := fun ob i => (hb.alloc ob).frozen i
  go_enter Tryz.func123, Tryz.ntmps123
  go_wp2_with fail
  have hx : Blk (((w.setCell ⟨b, 0, none⟩ (.pointer (some ⟨w.heap.size, 0, none⟩))).setCell ⟨b, 1, none⟩ (.int .i64 0)).alloc (.cells #[.int .u32 0, .int .i32 0, .int .u32 0] 246)) b 231 #[.pointer (some ⟨w.heap.size, 0, none⟩), .int .i64 0, .int .i64 n] := by
    simpa using ((hb.set_ 0 (.pointer (some ⟨w.heap.size, 0, none⟩))).set_ 1 (.int .i64 0)).alloc (.cells #[.int .u32 0, .int .i32 0, .int .u32 0] 246)
  refine (int64Store_any ⟨b, 2, none⟩ n 0 _ ((hx.cell 2).trans rfl) (hx.frozen 2)).mono ?_
  rintro e W ⟨rfl, hW⟩
  have hy : Blk W b 231 #[.pointer (some ⟨w.heap.size, 0, none⟩), .int .i64 0, .int .i64 0] := by
    rw [hW]
    simpa using hx.set_ 2 (.int .i64 0)
  have hz : Blk W w.heap.size 246 #[.int .u32 0, .int .i32 0, .int .u32 0] := by
    rw [hW]
    exact (Blk.new' _ _ _ (by simp [World.setCell])).far (by simp; omega) _
  have hk : Keep (fun x => x = b) w W := by
    rw [hW]
    exact ((((Keep.refl (fun x => x = b) w).setCell (p := ⟨b, 0, none⟩) (fun _ => rfl) _).setCell (p := ⟨b, 1, none⟩) (fun _ => rfl) _).alloc _).setCell (p := ⟨b, 2, none⟩) (fun _ => rfl) _
  have hs : W.heap.size = w.heap.size + 1 := by rw [hW]; simp [World.setCell]
  clear hW
  have Hs := Lib.hid hs
  clear hs
  go_wp2_with fail
  go_ret
  exact ⟨rfl, ⟨⟨0, hy⟩, ⟨_, hz⟩⟩, hk, Hs.out⟩
end Go.Proofs.YtbkkfkbgcklkgaaGreat
/- passive's valve by its contracts. -/
namespace Go.Proofs.YtbkkfkbgcklkgaaGreat
open Go.RowKit
set_option maxHeartbeats 4000000
set_option maxRecDepth 100000

theorem GateIs.far {w : World} {b o : Nat} {code : Int} (h : GateIs w b o code) {p : Addr} (hb : b ≠ p.block) (ho : o ≠ p.block) (u : Value) : GateIs (w.setCell p u) b o code := by
  obtain ⟨⟨n, h1⟩, ⟨s, h2⟩⟩ := h
  exact ⟨⟨n, h1.far hb u⟩, ⟨s, h2.far ho u⟩⟩
/-- What the valve's value cell holds. -/
def ValIs (w : World) (val : Value) (x : Option (List UInt8)) : Prop :=
  match x with
  | none => val = .slice none 0 0
  | some b => w.ownsRow 0 5 1 val b.length (u8c b) ∧ ∃ g, val.ownBlock = some g
/-- A valve at block v, its gate gb, its Once o, its value val. -/
structure ValveAt (w : World) (v : Nat) (V : ValveM) (n : Int) (F : Nat → Prop) (gb o : Nat) (val : Value) : Prop where
  blk : Blk w v 188 #[.int .i64 n, .pointer (some ⟨gb, 0, none⟩), .bool V.running, .bool V.fresh, .bool V.held, val]
  gate : GateIs w gb o V.latched
  value : ValIs w val V.value
  fv : F v
  fg : F gb
  fo : F o
  fx : ∀ x, val.ownBlock = some x → F x
def ValveIs (w : World) (v : Nat) (V : ValveM) (n : Int) (F : Nat → Prop) : Prop := ∃ gb o val, ValveAt w v V n F gb o val
/-- A footprint and what was made. -/
def grow (F : Nat → Prop) (w w' : World) (x : Nat) : Prop := F x ∨ (w.heap.size ≤ x ∧ x < w'.heap.size)
section
variable {w w' : World} {v gb o : Nat} {V : ValveM} {n : Int} {F F' S : Nat → Prop} {val : Value}
theorem ValveAt.ne (h : ValveAt w v V n F gb o val) : v ≠ gb ∧ v ≠ o := by
  obtain ⟨⟨m, h1⟩, ⟨s, h2⟩⟩ := h.gate
  exact ⟨h.blk.ne_ h1 (by decide), h.blk.ne_ h2 (by decide)⟩
theorem ValIs.keep {x : Option (List UInt8)} (h : ValIs w val x) (hk : Keep S w w') (hx : ∀ g, val.ownBlock = some g → ¬ S g) : ValIs w' val x := by
  cases x with
  | none => exact h
  | some b => exact ⟨ownsRow_keep h.1 hk hx, h.2⟩
theorem ValveAt.keep (h : ValveAt w v V n F gb o val) (hk : Keep S w w') (hS : ∀ x, F x → ¬ S x) (hF : ∀ x, F x → F' x) : ValveAt w' v V n F' gb o val where
  blk := h.blk.keep hk (hS _ h.fv)
  gate := h.gate.keep hk (hS _ h.fg) (hS _ h.fo)
  value := h.value.keep hk (fun g hg => hS _ (h.fx g hg))
  fv := hF _ h.fv
  fg := hF _ h.fg
  fo := hF _ h.fo
  fx := fun x hx => hF _ (h.fx x hx)
theorem ValveIs.keep (h : ValveIs w v V n F) (hk : Keep S w w') (hS : ∀ x, F x → ¬ S x) (hF : ∀ x, F x → F' x) : ValveIs w' v V n F' := by
  obtain ⟨gb, o, val, h⟩ := h
  exact ⟨gb, o, val, h.keep hk hS hF⟩
theorem ValveAt.val_ne (h : ValveAt w v V n F gb o val) : val.ownBlock ≠ some v ∧ val.ownBlock ≠ some gb ∧ val.ownBlock ≠ some o := by
  have hv := h.value
  obtain ⟨⟨m, h1⟩, ⟨s, h2⟩⟩ := h.gate
  unfold ValIs at hv
  split at hv
  · subst hv
    simp [Value.ownBlock]
  · exact ⟨own_ne hv.1 h.blk (by decide), own_ne hv.1 h1 (by decide), own_ne hv.1 h2 (by decide)⟩
end
/-- Latched, Code. -/
theorem valveLatched_any (v : Nat) (V : ValveM) (n : Int) (F : Nat → Prop) (w : World) (h : ValveIs w v V n F) : Calls Tryz.prog 56 #[.pointer (some ⟨v, 0, none⟩)] w fun e w' => e = .returned (.int .i64 V.latched) ∧ w' = w := by
  obtain ⟨gb, o, val, h⟩ := h
  have hc := h.blk.cell
  go_enter Tryz.func56, Tryz.ntmps56
  go_wp2_with fail
  refine (gateCode_any gb o _ _ h.gate).mono ?_
  rintro e w1 ⟨rfl, rfl⟩
  go_wp2_with fail
  go_ret
  exact ⟨rfl, rfl⟩
theorem valveRequest_any (v : Nat) (V : ValveM) (n : Int) (F : Nat → Prop) (w : World) (h : ValveIs w v V n F) : Calls Tryz.prog 57 #[.pointer (some ⟨v, 0, none⟩)] w fun e w' => e = .returned (.bool V.request) ∧ w' = w := by
  obtain ⟨gb, o, val, h⟩ := h
  have hc := h.blk.cell
  have hg := h.gate
  obtain ⟨running, held, fresh, latched, value⟩ := V
  simp only at hc hg
  clear h
  cases running with
  | false =>
    go_enter Tryz.func57, Tryz.ntmps57
    go_wp2_with fail
    go_ret
    exact ⟨rfl, rfl⟩
  | true =>
    cases fresh with
    | false =>
      go_enter Tryz.func57, Tryz.ntmps57
      go_wp2_with fail
      go_ret
      exact ⟨rfl, rfl⟩
    | true =>
      go_enter Tryz.func57, Tryz.ntmps57
      go_wp2_with fail
      refine (gateCode_any gb o _ _ hg).mono ?_
      rintro e w1 ⟨rfl, rfl⟩
      go_wp2_with fail
      go_ret
      exact ⟨rfl, rfl⟩
theorem valveRun_any (v : Nat) (V : ValveM) (n : Int) (F : Nat → Prop) (on : Bool) (w : World) (h : ValveIs w v V n F) : Calls Tryz.prog 167 #[.pointer (some ⟨v, 0, none⟩), .bool on] w fun e w' => e = .returned (.tuple #[]) ∧ ValveIs w' v (V.run on) n F ∧ Keep F w w' ∧ w'.heap.size = w.heap.size := by
  obtain ⟨gb, o, val, h⟩ := h
  have hc := h.blk.cell
  have hf := h.blk.frozen
  by_cases he : V.running = on
  · have e1 : V.run on = V := by unfold ValveM.run; rw [if_pos he]
    rw [e1]
    have hq : ∀ W, (binOp .neq 4 (.bool V.running) (.bool on)).run Tryz.prog W = .ok (.bool false) W := by
      rw [he]
      cases on <;> exact fun _ => by kernel_rfl
    go_enter Tryz.func167, Tryz.ntmps167
    go_wp2_with fail
    go_end0
    exact ⟨rfl, ⟨gb, o, val, h⟩, Keep.refl _ _, rfl⟩
  · have e1 : V.run on = { V with running := on, held := false, value := none } := by unfold ValveM.run; rw [if_neg he]
    rw [e1]
    have hq : ∀ W, (binOp .neq 4 (.bool V.running) (.bool on)).run Tryz.prog W = .ok (.bool true) W := by
      cases hr : V.running <;> cases on <;> first | exact absurd hr he | exact fun _ => by kernel_rfl
    have hne := h.ne
    have hb := h.blk
    have hg := h.gate
    have hfv := h.fv
    have hfg := h.fg
    have hfo := h.fo
    clear h e1
    generalize V.running = ru at *
    generalize V.fresh = fr at *
    generalize V.held = he2 at *
    clear he
    go_enter Tryz.func167, Tryz.ntmps167
    go_wp2_with fail
    go_end0
    refine ⟨rfl, ⟨gb, o, .slice none 0 0, ⟨?_, ((hg.far (p := ⟨v, 2, none⟩) (fun h => hne.1 h.symm) (fun h => hne.2 h.symm) _).far (p := ⟨v, 5, none⟩) (fun h => hne.1 h.symm) (fun h => hne.2 h.symm) _).far (p := ⟨v, 4, none⟩) (fun h => hne.1 h.symm) (fun h => hne.2 h.symm) _, rfl, hfv, hfg, hfo, fun x hx => by simp [Value.ownBlock] at hx⟩⟩, (((Keep.refl _ w).setCell (p := ⟨v, 2, none⟩) (fun _ => hfv) _).setCell (p := ⟨v, 5, none⟩) (fun _ => hfv) _).setCell (p := ⟨v, 4, none⟩) (fun _ => hfv) _, by simp [World.setCell]⟩
    simpa using ((hb.set_ 2 (.bool on)).set_ 5 (.slice none 0 0)).set_ 4 (.bool false)
theorem valveFresh_any (v : Nat) (V : ValveM) (n : Int) (F : Nat → Prop) (w : World) (h : ValveIs w v V n F) : Calls Tryz.prog 188 #[.pointer (some ⟨v, 0, none⟩)] w fun e w' => e = .returned (.tuple #[]) ∧ ValveIs w' v V.come n F ∧ Keep F w w' ∧ w'.heap.size = w.heap.size := by
  obtain ⟨gb, o, val, h⟩ := h
  have hc := h.blk.cell
  have hf := h.blk.frozen
  have hne := h.ne
  have hvn := h.val_ne
  go_enter Tryz.func188, Tryz.ntmps188
  go_wp2_with fail
  refine (gateCode_any gb o _ _ h.gate).mono ?_
  rintro e w1 ⟨rfl, rfl⟩
  go_wp2_with fail
  go_end0
  have hk : Keep (fun x => x = v) w1 (w1.setCell ⟨v, 3, none⟩ (.bool (V.latched != 0))) := (Keep.refl (fun x => x = v) w1).setCell (p := ⟨v, 3, none⟩) (fun _ => rfl) _
  refine ⟨rfl, ⟨gb, o, val, ⟨?_, h.gate.far (p := ⟨v, 3, none⟩) (fun h => hne.1 h.symm) (fun h => hne.2 h.symm) _, h.value.keep hk (fun g hg e => hvn.1 (e ▸ hg)), h.fv, h.fg, h.fo, h.fx⟩⟩, (Keep.refl F w1).setCell (p := ⟨v, 3, none⟩) (fun _ => h.fv) _, by simp [World.setCell]⟩
  simpa [ValveM.come] using h.blk.set_ 3 (.bool (V.latched != 0))
theorem valveHold_any (v : Nat) (V : ValveM) (n : Int) (F : Nat → Prop) (on : Bool) (w : World) (h : ValveIs w v V n F) : Calls Tryz.prog 168 #[.pointer (some ⟨v, 0, none⟩), .bool on] w fun e w' => e = .returned (.tuple #[]) ∧ ValveIs w' v (V.hold on) n F ∧ Keep F w w' ∧ w'.heap.size = w.heap.size := by
  obtain ⟨gb, o, val, h⟩ := h
  have hc := h.blk.cell
  have hf := h.blk.frozen
  have hne := h.ne
  have hvn := h.val_ne
  have key : ∀ b : Bool, b = (on && V.running) → ValveIs (w.setCell ⟨v, 4, none⟩ (.bool b)) v (V.hold on) n F ∧ Keep F w (w.setCell ⟨v, 4, none⟩ (.bool b)) ∧ (w.setCell ⟨v, 4, none⟩ (.bool b)).heap.size = w.heap.size := by
    intro b hb
    have hk : Keep (fun x => x = v) w (w.setCell ⟨v, 4, none⟩ (.bool b)) := (Keep.refl (fun x => x = v) w).setCell (p := ⟨v, 4, none⟩) (fun _ => rfl) _
    refine ⟨⟨gb, o, val, ⟨?_, h.gate.far (p := ⟨v, 4, none⟩) (fun h => hne.1 h.symm) (fun h => hne.2 h.symm) _, h.value.keep hk (fun g hg e => hvn.1 (e ▸ hg)), h.fv, h.fg, h.fo, h.fx⟩⟩, (Keep.refl F w).setCell (p := ⟨v, 4, none⟩) (fun _ => h.fv) _, by simp [World.setCell]⟩
    subst hb
    simpa [ValveM.hold] using h.blk.set_ 4 (.bool (on && V.running))
  cases on with
  | false =>
    go_enter Tryz.func168, Tryz.ntmps168
    go_wp2_with fail
    go_end0
    exact ⟨rfl, key false rfl⟩
  | true =>
    go_enter Tryz.func168, Tryz.ntmps168
    go_wp2_with fail
    go_end0
    exact ⟨rfl, key V.running (by simp)⟩
theorem valveTrip_any (v : Nat) (V : ValveM) (n : Int) (F : Nat → Prop) (code : Int) (w : World) (hcode : code ≠ 0) (h : ValveIs w v V n F) : Calls Tryz.prog 122 #[.pointer (some ⟨v, 0, none⟩), .int .i64 code] w fun e w' => e = .returned (.bool (V.trip code).2) ∧ ValveIs w' v (V.trip code).1 n F ∧ Keep F w w' := by
  obtain ⟨gb, o, val, h⟩ := h
  have hc := h.blk.cell
  have hf := h.blk.frozen
  have hne := h.ne
  have hcod : (code == 0) = false := by simpa using hcode
  have e1 : V.trip code = ({ V with value := none, fresh := false, latched := if V.latched = 0 then code else V.latched }, V.latched == 0) := by unfold ValveM.trip; rw [if_neg hcode]
  rw [e1]
  clear e1
  have htrip := fun w (hg : GateIs w gb o V.latched) => gateTrip_any gb o V.latched code w hcode hg
  generalize (if V.latched = 0 then code else V.latched) = nl at *
  go_enter Tryz.func122, Tryz.ntmps122
  go_wp2_with fail
  have hg2 := (h.gate.far (p := ⟨v, 5, none⟩) (fun h => hne.1 h.symm) (fun h => hne.2 h.symm) (.slice none 0 0)).far (p := ⟨v, 3, none⟩) (fun h => hne.1 h.symm) (fun h => hne.2 h.symm) (.bool false)
  have hb2 := (h.blk.set_ 5 (.slice none 0 0)).set_ 3 (.bool false)
  have hk2 := ((Keep.refl F w).setCell (p := ⟨v, 5, none⟩) (fun _ => h.fv) (.slice none 0 0)).setCell (p := ⟨v, 3, none⟩) (fun _ => h.fv) (.bool false)
  refine (htrip _ hg2).mono ?_
  rintro e w1 ⟨rfl, hg3, hk3⟩
  go_wp2_with fail
  go_ret
  refine ⟨rfl, ⟨gb, o, .slice none 0 0, ⟨?_, hg3, rfl, h.fv, h.fg, h.fo, fun x hx => by simp [Value.ownBlock] at hx⟩⟩, hk2.andThen hk3 (fun x _ hx => ?_)⟩
  · have := hb2.keep hk3 (fun hx => hx.elim hne.1 hne.2)
    simpa using this
  · rcases hx with h1 | h1
    · exact h1 ▸ h.fg
    · exact h1 ▸ h.fo
theorem valveAck_any (v : Nat) (V : ValveM) (n : Int) (F : Nat → Prop) (w : World) (hV : ValveIs w v V n F) : Calls Tryz.prog 77 #[.pointer (some ⟨v, 0, none⟩)] w fun e w' => e = .returned (.int .i64 (if V.request then 0 else 110)) ∧ ValveIs w' v V.ack n (grow F w w') ∧ Keep F w w' := by
  have hreq := fun w h => valveRequest_any v V n F w h
  cases hr : V.request with
  | false =>
    rw [hr] at hreq
    have e1 : V.ack = V := by unfold ValveM.ack; rw [hr]; rfl
    rw [e1]
    go_enter Tryz.func77, Tryz.ntmps77
    go_wp2_with fail
    refine (hreq _ hV).mono ?_
    rintro e w1 ⟨rfl, rfl⟩
    go_wp2_with fail
    go_ret
    exact ⟨rfl, hV.keep (S := fun _ => False) (Keep.refl _ _) (fun _ _ h => h) (fun _ h => .inl h), Keep.refl _ _⟩
  | true =>
    rw [hr] at hreq
    have e1 : V.ack = { V with latched := 0, fresh := false } := by unfold ValveM.ack; rw [hr]; rfl
    rw [e1]
    have h0 := hV
    obtain ⟨gb, o, val, hV⟩ := hV
    have hc := hV.blk.cell
    go_enter Tryz.func77, Tryz.ntmps77
    go_wp2_with fail
    refine (hreq _ h0).mono ?_
    rintro e w1 ⟨rfl, rfl⟩
    go_wp2_with fail
    refine (gateLift_any gb o _ _ hV.gate).mono ?_
    rintro e w2 ⟨rfl, hg2, hk2, hs2⟩
    have hb2 := hV.blk.keep hk2 hV.ne.1
    have hvg : w1.heap.size ≠ v := by have := hV.blk.lt; omega
    have hval2 := hV.value.keep hk2 (fun g hg e => hV.val_ne.2.1 (e ▸ hg))
    have Hs2 := Lib.hid hs2
    clear hc hs2
    have hc := hb2.cell
    have hf := hb2.frozen
    go_wp2_with fail
    go_ret
    have hs := Hs2.out
    have hk3 : Keep (fun x => x = v) w2 (w2.setCell ⟨v, 3, none⟩ (.bool false)) := (Keep.refl (fun x => x = v) w2).setCell (p := ⟨v, 3, none⟩) (fun _ => rfl) _
    refine ⟨rfl, ⟨gb, w1.heap.size, val, ⟨?_, hg2.far (p := ⟨v, 3, none⟩) (fun e => hV.ne.1 e.symm) hvg _, hval2.keep hk3 (fun g hg e => hV.val_ne.1 (e ▸ hg)), .inl hV.fv, .inl hV.fg, .inr ⟨Nat.le_refl _, by simp [World.setCell]; omega⟩, fun x hx => .inl (hV.fx x hx)⟩⟩, (hk2.mono (fun x _ hx => hx ▸ hV.fg)).setCell (p := ⟨v, 3, none⟩) (fun _ => hV.fv) _⟩
    simpa using hb2.set_ 3 (.bool false)
end Go.Proofs.YtbkkfkbgcklkgaaGreat
/- passive's New, Take and Output by their contracts. -/
namespace Go.Proofs.YtbkkfkbgcklkgaaGreat
open Go.RowKit
set_option maxHeartbeats 4000000
set_option maxRecDepth 100000

theorem made_zero (n : Nat) : madeCells #[Value.int .u8 0] n = (u8c (List.replicate n 0)).toArray := by
  apply Array.ext
  · simp [madeCells, u8c]
  · intro i h1 h2
    have hm : i % 1 = 0 := Nat.mod_one i
    simp [madeCells, u8c, hm]
theorem Keep.growBelow {F : Nat → Prop} {w w' : World} (h : Below w.heap.size w w') : Keep F w w' := Keep.of_below h
theorem valveNew_any (n : Int) (w : World) (h1 : 1 ≤ n) (h8 : n ≤ 8) : Calls Tryz.prog 87 #[.int .i64 n] w fun e w' => ∃ v, e = .returned (.tuple #[.pointer (some ⟨v, 0, none⟩), .int .i64 0]) ∧ ValveIs w' v {} n (fun x => w.heap.size ≤ x ∧ x < w'.heap.size) ∧ w.heap.size ≤ v ∧ v < w'.heap.size ∧ Below w.heap.size w w' := by
  go_enter Tryz.func87, Tryz.ntmps87
  go_wp2_with fail
  refine (gateNew_any _).mono ?_
  rintro e w1 ⟨rfl, hg, hb, hs⟩
  have Hs := Lib.hid hs
  clear hs
  go_wp2_with fail
  refine bodyPost_ret (v := .tuple #[.pointer (some ⟨w1.heap.size, 0, none⟩), .int .i64 0]) (by simp [results, Tryz.results87, go_sem]) rfl ⟨_, rfl, ⟨w.heap.size + 1, w.heap.size, .slice none 0 0, ⟨Blk.new w1 _ _, hg.keep (S := fun _ => False) ((Keep.refl _ w1).alloc _) id id, rfl, ?_, ?_, ?_, fun x hx => by simp [Value.ownBlock] at hx⟩⟩, ?_, ?_, hb.alloc hb.size _⟩
  all_goals (have := Hs.out; simp; try omega)
theorem valveTake_any (v : Nat) (V : ValveM) (n : Int) (F : Nat → Prop) (A : Option Addr) (c B : Nat) (l : List UInt8) (w : World) (hV : ValveIs w v V n F) (hr : Reads w B 1 A l.length (u8c l)) (hB : B ≤ w.heap.size) (hn : n = (l.length : Int)) (h1 : 0 < l.length) (h8 : l.length ≤ 1000) :
    Calls Tryz.prog 169 #[.pointer (some ⟨v, 0, none⟩), .slice A l.length c] w fun e w' => e = .returned (.int .i64 0) ∧ ValveIs w' v (V.take l) n (grow F w w') ∧ Keep F w w' := by
  subst hn
  obtain ⟨ad, rfl⟩ : ∃ ad, A = some ad := by
    obtain ⟨ad, h, _⟩ := hr.2 h1
    exact ⟨ad, h⟩
  have h0 := hV
  obtain ⟨gb, o, val, hV⟩ := hV
  have hc := hV.blk.cell
  have hclone := fun w (hr : Reads w B 1 (some ad) l.length (u8c l)) (hB : B ≤ w.heap.size) => cloneByte_any (some ad) l.length c l B w (fun h => by cases h) hr hB (by omega)
  have same : V.take l = V → ValveIs w v (V.take l) l.length (grow F w w) := fun e => by rw [e]; exact h0.keep (S := fun _ => False) (Keep.refl _ _) (fun _ _ h => h) (fun _ h => .inl h)
  generalize hN : l.length = N at *
  clear hN
  cases hrun : V.running with
  | false =>
    have e1 : V.take l = V := by unfold ValveM.take; rw [hrun]; rfl
    have hs := same e1
    rw [hrun] at hc
    clear same e1
    go_enter Tryz.func169, Tryz.ntmps169
    go_wp2_with fail
    go_ret
    exact ⟨rfl, hs, Keep.refl _ _⟩
  | true =>
    rw [hrun] at hc
    cases hlat : (V.latched == 0) with
    | false =>
      have e1 : V.take l = V := by unfold ValveM.take; rw [hrun, hlat]; rfl
      have hs := same e1
      clear same e1
      go_enter Tryz.func169, Tryz.ntmps169
      go_wp2_with fail
      refine (gateCode_any gb o _ _ hV.gate).mono ?_
      rintro e w1 ⟨rfl, rfl⟩
      go_wp2_with fail
      go_ret
      exact ⟨rfl, hs, Keep.refl _ _⟩
    | true =>
      have e1 : V.take l = { V with value := some l } := by unfold ValveM.take; rw [hrun, hlat]; rfl
      rw [e1]
      clear same e1
      go_enter Tryz.func169, Tryz.ntmps169
      go_wp2_with fail
      refine (gateCode_any gb o _ _ hV.gate).mono ?_
      rintro e w1 ⟨rfl, rfl⟩
      go_wp2_with fail
      refine (hclone _ hr hB).mono ?_
      rintro e w2 ⟨v2, rfl, hown2, _, hsome, hb2⟩
      obtain ⟨A2, c2, rfl⟩ := own_slice hown2
      have hV2 := hV.keep (F' := F) (S := fun _ => False) (Keep.of_below hb2) (fun _ _ h => h) (fun _ h => h)
      have hc2 := hV2.blk.cell
      have hf2 := hV2.blk.frozen
      clear hc
      go_wp2_with fail
      go_ret
      have hne := hV2.ne
      have hsz := hb2.size
      have hlt := hown2.lt
      have hfar : (Value.slice A2 N c2).ownBlock ≠ some v := fun e => by have := (hlt v e).1; have := hV.blk.lt; omega
      have hk3 : Keep (fun x => x = v) w2 (w2.setCell ⟨v, 5, none⟩ (.slice A2 N c2)) := (Keep.refl (fun x => x = v) w2).setCell (p := ⟨v, 5, none⟩) (fun _ => rfl) _
      have hs3 : (w2.setCell ⟨v, 5, none⟩ (.slice A2 N c2)).heap.size = w2.heap.size := by simp [World.setCell]
      refine ⟨rfl, ⟨gb, o, .slice A2 N c2, ⟨?_, hV2.gate.far (p := ⟨v, 5, none⟩) (fun e => hne.1 e.symm) (fun e => hne.2 e.symm) _, ⟨?_, hsome (by simp)⟩, .inl hV.fv, .inl hV.fg, .inl hV.fo, fun x hx => .inr ?_⟩⟩, (Keep.of_below hb2).setCell (p := ⟨v, 5, none⟩) (fun _ => hV.fv) _⟩
      · have := hV2.blk.set_ 5 (.slice A2 N c2)
        rw [hrun] at this
        simpa [hrun] using this
      · have hlN : l.length = N := by have := hown2.1; rw [u8c_length] at this; omega
        rw [hlN]
        exact own_base (own_far hown2 hfar 5 _) (Nat.zero_le _)
      · rw [hs3]
        exact hlt x hx
theorem own_made (w : World) (N : Nat) (h : N ≤ 1000) : (w.alloc (.cells (madeCells #[.int .u8 0] N) 5)).ownsRow w.heap.size 5 1 (.slice (some ⟨w.heap.size, 0, none⟩) N N) N (u8c (List.replicate N 0)) := by
  rw [made_zero]
  have := own_full w (u8c (List.replicate N 0)).toArray 5 w.heap.size (Nat.le_refl _) (by simp [u8c, maxLen]; omega)
  simpa [u8c] using this
theorem valveOutput_any (v : Nat) (V : ValveM) (N : Nat) (F : Nat → Prop) (w : World) (hV : ValveIs w v V (N : Int) F) (hN : N ≤ 8) (hval : ∀ b, V.value = some b → b.length = N) :
    Calls Tryz.prog 54 #[.pointer (some ⟨v, 0, none⟩)] w fun e w' => ∃ x, e = .returned (.tuple #[x, .bool V.on]) ∧ w'.ownsRow w.heap.size 5 1 x N (u8c (V.output N)) ∧ (V.output N).length = N ∧ Below w.heap.size w w' := by
  obtain ⟨gb, o, val, hV⟩ := hV
  have hc := hV.blk.cell
  have hmk := run_make_row' (P := Tryz.prog) 41 5 (.int .u8 0) 1 Tryz.underlying41 byte_info rfl .i64 .i64 N (by omega) (by omega)
  have hq := fun (W : World) (a : Option Addr) (n c n' c' : Nat) => run_neq_slice_nil_any (P := Tryz.prog) W 41 5 a n c n' c' Tryz.underlying41
  have off : V.on = false → V.output N = List.replicate N 0 := fun e => by unfold ValveM.output; rw [e]; rfl
  cases hrun : V.running with
  | false =>
    have e1 : V.on = false := by unfold ValveM.on; rw [hrun]; rfl
    rw [off e1, e1]
    rw [hrun] at hc
    go_enter Tryz.func54, Tryz.ntmps54
    go_wp2_with fail
    refine bodyPost_ret (v := .tuple #[.slice (some ⟨w.heap.size, 0, none⟩) N N, .bool false]) (by simp [results, Tryz.results54, go_sem]) rfl ⟨_, rfl, own_made w N (by omega), by simp, (Below.refl _ _).alloc (Nat.le_refl _) _⟩
  | true =>
    rw [hrun] at hc
    cases hheld : V.held with
    | true =>
      have e1 : V.on = false := by unfold ValveM.on; rw [hheld, hrun]; rfl
      rw [off e1, e1]
      rw [hheld] at hc
      go_enter Tryz.func54, Tryz.ntmps54
      go_wp2_with fail
      refine bodyPost_ret (v := .tuple #[.slice (some ⟨w.heap.size, 0, none⟩) N N, .bool false]) (by simp [results, Tryz.results54, go_sem]) rfl ⟨_, rfl, own_made w N (by omega), by simp, (Below.refl _ _).alloc (Nat.le_refl _) _⟩
    | false =>
      rw [hheld] at hc
      have hvalue := hV.value
      cases hv : V.value with
      | none =>
        have e1 : V.on = false := by unfold ValveM.on; rw [hheld, hrun, hv]; rfl
        rw [off e1, e1]
        rw [hv] at hvalue
        unfold ValIs at hvalue
        simp only at hvalue
        subst hvalue
        go_enter Tryz.func54, Tryz.ntmps54
        go_wp2_with fail
        refine bodyPost_ret (v := .tuple #[.slice (some ⟨w.heap.size, 0, none⟩) N N, .bool false]) (by simp [results, Tryz.results54, go_sem]) rfl ⟨_, rfl, own_made w N (by omega), by simp, (Below.refl _ _).alloc (Nat.le_refl _) _⟩
      | some b =>
        have e1 : V.on = true := by unfold ValveM.on; rw [hheld, hrun, hv]; rfl
        have e2 : V.output N = b := by unfold ValveM.output; rw [e1, hv]; rfl
        rw [e1, e2]
        have hbl := hval b hv
        rw [hv] at hvalue
        obtain ⟨hown, g, hg⟩ := (hvalue : w.ownsRow 0 5 1 val b.length (u8c b) ∧ ∃ g, val.ownBlock = some g)
        obtain ⟨A, c, rfl⟩ := own_slice hown
        rw [hbl] at hown hg hc ⊢
        obtain ⟨ad, rfl⟩ : ∃ ad, A = some ad := by
          cases A with
          | none => simp [Value.ownBlock] at hg
          | some ad => exact ⟨ad, rfl⟩
        have Hbl := Lib.hid hbl
        clear hbl hval off hV e1 e2 hv
        go_enter Tryz.func54, Tryz.ntmps54
        go_wp2_with fail
        refine (cloneByte_any (some ad) N c b w.heap.size w (fun h => by cases h) (Reads.of_own hown) (Nat.le_refl _) (by omega)).mono ?_
        rintro e w2 ⟨v2, rfl, hown2, _, _, hb2⟩
        go_wp2_with fail
        refine bodyPost_ret (v := .tuple #[v2, .bool true]) (by simp [results, Tryz.results54, go_sem]) rfl ⟨_, rfl, hown2, by first | trivial | exact Hbl.out, hb2⟩
end Go.Proofs.YtbkkfkbgcklkgaaGreat
